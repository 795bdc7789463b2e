/- Plain laws of chapter 32's models: the reference's control. No condition. -/
import Derived.Test.YtafgdbaekppjcaaGreatDoorP32n
set_option linter.unusedSectionVars false
set_option linter.unusedVariables false
set_option linter.unusedSimpArgs false
namespace G33
open Go Go.Pl
set_option linter.unusedVariables false
set_option linter.unusedSimpArgs false
theorem Right.good {s:SSequence} (h:Right s):Good s:=⟨h.a1,h.a6,h.n0,h.n64,fun i hi=>(h.step i hi).ok⟩
theorem end_lenR {s:SSequence} (h:Right s) (n:Int) (k:Nat):(endE s n k).length≤6:=by
 by_cases hk:k < s.Steps.length
 ·exact endE_len h.good hk
 ·unfold endE
  rw [List.getElem?_eq_none (by omega)]
  exact Nat.zero_le _
theorem m149_pln {s:SSequence} (h:Right s) {k:Nat} (hk:k < s.Steps.length):m149 (pln s) k=some (endE s (tc s) k):=m149_eq s _ (tc_nn h) hk (h.step k hk).ok
def grSig (s:SSequence) (j:Nat):SSignal:=
 ⟨nameOf [103] j,1,sev 3 (lineE (fst s+((j+gnn s - 1) % gnn s:Nat))::endE s (tc s) (lst s ((j+gnn s - 1) % gnn s))),
  lineE (fst s+((j+1) % gnn s:Nat)),0,(j:Int)==0⟩
def grSigs (s:SSequence) (k:Nat):List SSignal:=(List.range k).map (grSig s)
theorem grSigs_succ {s:SSequence} {k:Nat}:grSigs s (k+1)=grSigs s k++[grSig s k]:=by
 unfold grSigs;rw [List.range_succ,List.map_append];rfl
def two (s:SSequence):List SSignal:=
 [⟨[103,49],1,sev 3 (endE s (tc s) (lst s 0)),sev 3 (endE s (tc s) (lst s 1)),0,false⟩,⟨[103,48],0,⟨2,0,[lineE (fst s)]⟩,noE,0,false⟩]
def lns (s:SSequence):List SSignal:=if gnn s=2 then two s else grSigs s (gnn s)
theorem lns_len {s:SSequence}:(lns s).length=gnn s:=by
 unfold lns
 split
 ·rename_i h;rw [h];rfl
 ·simp [grSigs]
theorem m107_eq {s:SSequence} (h:Right s):m107 (pln s)=some (lns s):=by
 have hn0:=h.n0
 have hn:=h.n64
 obtain ⟨f1,f2,f3,f4⟩:=div_facts h
 unfold m107
 show ((m73 s).bind _)=_
 rw [m73_eq h]
 show ((m71 s).bind _)=_
 rw [m71_eq h]
 simp only [Option.bind_some,m147_line,m148_sev,SExpr.eta3]
 rw [few_gn]
 by_cases h2:gnn s=2
 ·rw [cond_t (by simp [h2])]
  show ((m177 s _ _).bind _)=_
  rw [show (0:Int)=((0:Nat):Int) from rfl,m177_eq h (j:=0) (by omega)]
  show ((m149 _ _).bind _)=_
  rw [m149_pln h (lst_lt h 0)]
  show ((m177 s _ _).bind _)=_
  rw [show (1:Int)=((1:Nat):Int) from rfl,m177_eq h (j:=1) (by omega)]
  show ((m149 _ _).bind _)=_
  rw [m149_pln h (lst_lt h 1)]
  simp only [Option.bind_some,SExpr.eta3]
  have ei:idx (gl s) ((1:Nat):Int)=some (fst s):=by unfold gl;rw [if_pos h2];rfl
  rw [ei]
  simp only [Option.bind_some,SExpr.eta3]
  unfold lns
  rw [if_pos h2];rfl
 ·rw [cond_f (by simp;omega)]
  have hp:gl s=mods (fst s) (gnn s):=by unfold gl;rw [if_neg h2]
  rw [iter_fold (fun k:Nat=>((k:Int),grSigs s k)) (gnn s) ?hn (grSigs s (gnn s)) ?h0 ?h ?he]
  case hn=>unfold fuel;omega
  case h0=>simp [grSigs]
  case he=>
   try dsimp only
   rw [cond_f (lt_f (by omega))]
  case h=>
   intro k hk
   try dsimp only
   have hpv:(k+gnn s - 1) % gnn s < gnn s:=Nat.mod_lt _ f1
   have hnx:(k+1) % gnn s < gnn s:=Nat.mod_lt _ f1
   have mi:∀ j,j < gnn s→idx (gl s) (j:Int)=some (fst s+(j:Int)):=by
    intro j hj
    rw [hp,idx_lt (show j < (mods (fst s) (gnn s)).length by simp [mods];exact hj)];simp [mods]
   rw [cond_t (lt_t (by omega)),prev_eq hk (by omega),next_eq hk (by omega)]
   simp only [Option.bind_some]
   rw [mi _ hpv]
   simp only [Option.bind_some]
   show ((m177 s _ _).bind _)=_
   rw [m177_eq h hpv]
   simp only [Option.bind_some]
   rw [m149_pln h (lst_lt h _)]
   have hl:=end_lenR h (tc s) (lst s ((k+gnn s - 1) % gnn s))
   simp only [Option.bind_some,SExpr.eta3]
   rw [appc_eq (by simp;omega) (by simp;omega)]
   simp only [Option.bind_some,SExpr.eta3]
   obtain ⟨t,ht,ht2⟩:=num_eq (p:=[103]) (.inl rfl) (show k < 100 by omega)
   have hnm:nameOf [103] k=t:=by unfold nameOf;rw [ht];rfl
   have hml:(grSigs s k).length=k:=by simp [grSigs]
   rw [grSigs_succ,ht,mi _ hnx]
   simp only [Option.bind_some,SExpr.eta3]
   rw [appc_eq (by simp [hml];omega) (by simp [hml];omega)]
   simp only [Option.bind_some]
   rw [addI_nat (by omega)]
   unfold grSig
   rw [hnm];rfl
  unfold lns
  rw [if_neg h2];rfl
def more (s:SSequence) (k:Nat):List SExpr:=if k=0 then [lineE (2*s.Actuators)] else if (div s).getD (grp s k) 0 < k then endE s (tc s) (k - 1) else []
theorem more_len {s:SSequence} (h:Right s) (k:Nat):(more s k).length≤6:=by
 unfold more
 split
 ·simp
 ·split
  ·exact end_lenR h _ _
  ·simp
def glk (s:SSequence) (k:Nat):Int:=(gl s).getD (grp s k) 0
def beg (s:SSequence) (k:Nat):SExpr:=sev 3 (lineE (glk s k)::more s k)
theorem top_le {o:List Nat} {k:Nat} (h0:o.getD 0 0=0):∀ {m:Nat},0 < m→o.getD (top o k m) 0≤k
 | 0,h=>by omega
 | m+1,_=>by
  rw [top]
  split
  ·assumption
  ·rename_i hc
   have:0 < m:=by
    refine Nat.pos_of_ne_zero fun hm=>?_
    subst hm;omega
   exact top_le h0 this
theorem grp_le {s:SSequence} (h:Right s) (k:Nat):(div s).getD (grp s k) 0≤k:=top_le (div_facts h).2.2.1 (div_facts h).1
theorem m110_eq {s:SSequence} (h:Right s) {k:Nat} (hk:k < s.Steps.length):m110 (pln s) k=some (beg s k):=by
 have hn:=h.n64
 have ha1:=h.a1
 have ha6:=h.a6
 have hg:=grp_lt h k
 have hle:=grp_le h k
 unfold m110
 show ((m73 s).bind _)=_
 rw [m73_eq h]
 show ((m71 s).bind _)=_
 rw [m71_eq h]
 simp only [Option.bind_some,m147_line,m148_sev,SExpr.eta3]
 rw [m178_eq h k]
 simp only [Option.bind_some]
 rw [gl_idx hg]
 simp only [Option.bind_some]
 show (bif _ then some (sev 3 [_,lineE (mulI .i64 2 s.Actuators)]) else _)=_
 rw [act2 h.good]
 unfold beg more
 by_cases h0:k=0
 ·rw [cond_t (by simp [h0]),if_pos h0];rfl
 ·rw [cond_f (by simp;omega),if_neg h0,few_idx hg]
  simp only [Option.bind_some]
  by_cases hc:(div s).getD (grp s k) 0 < k
  ·rw [cond_f (by rw [beq_eq_false_iff_ne];omega),if_pos hc,sub_nat (by omega) (by omega),m149_pln h (show k - 1 < _ by omega)]
   simp only [Option.bind_some]
   have hl:=end_lenR h (tc s) (k - 1)
   rw [appc_eq (by simp;omega) (by simp;omega)]
   rfl
  ·rw [cond_t (by rw [beq_iff_eq];omega),if_neg hc];rfl
def tn (s:SSequence):Nat:=cnt s s.Steps.length
def sts (s:SSequence) (k:Nat):List Int:=(List.range k).map fun j:Nat=>fst s+(gnn s:Int)+(tn s:Int)+(j:Int)
theorem sts_len {s:SSequence} {k:Nat}:(sts s k).length=k:=by simp [sts]
theorem sts_succ {s:SSequence} {k:Nat}:sts s (k+1)=sts s k++[fst s+(gnn s:Int)+(tn s:Int)+(k:Int)]:=by
 unfold sts;rw [List.range_succ,List.map_append];rfl
theorem m75_pln {s:SSequence} (h:Right s):m75 (pln s)=some (tn s:Int):=m75_eq s _ (tc_nn h) h.n64
theorem m72_eq {s:SSequence} (h:Right s):m72 s=some (sts s s.Steps.length):=by
 have hf:=fst_le h.a1 h.a6
 have hn:=h.n64
 have hc:=cnt_le s s.Steps.length
 have htn:tn s≤64:=by unfold tn;omega
 obtain ⟨f1,f2,f3,f4⟩:=div_facts h
 unfold m72
 rw [m74_eq h]
 simp only [Option.bind_some]
 rw [iter_fold (fun k:Nat=>((k:Int),sts s k)) s.Steps.length ?hn (sts s s.Steps.length) ?h0 ?h ?he]
 case hn=>unfold fuel;omega
 case h0=>rfl
 case he=>
  try dsimp only
  rw [cond_f (lt_f (by omega))]
 case h=>
  intro k hk
  try dsimp only
  have hl:=sts_len (s:=s) (k:=k)
  rw [cond_t (lt_t (by omega)),m128_eq h,m73_eq h,m75_pln h]
  simp only [Option.bind_some]
  rw [few_gn,addI_eq (show -9223372036854775808≤fst s+(gnn s:Int) by omega) (by omega),addI_eq (show -9223372036854775808≤fst s+(gnn s:Int)+(tn s:Int) by omega) (by omega),addI_eq (by omega) (by omega)]
  rw [appc_eq (by simp [hl];omega) (by simp [hl];omega),addI_nat (by omega),sts_succ];rfl
 rfl
def stSig (s:SSequence) (k:Nat):SSignal:=⟨nameOf [115] k,0,beg s k,noE,0,false⟩
def stSigs (s:SSequence) (k:Nat):List SSignal:=(List.range k).map (stSig s)
theorem stSigs_succ {s:SSequence} {k:Nat}:stSigs s (k+1)=stSigs s k++[stSig s k]:=by
 unfold stSigs;rw [List.range_succ,List.map_append];rfl
theorem stSigs_len {s:SSequence} {k:Nat}:(stSigs s k).length=k:=by simp [stSigs]
def bas1 (s:SSequence):List SSignal:=lns s++clks s (bel s s.Steps.length) s.Steps.length
def bas (s:SSequence):List SSignal:=bas1 s++stSigs s s.Steps.length
theorem clks_cnt {s:SSequence} {M:List Int} (hM:M.length=s.Steps.length):∀ k,k≤s.Steps.length→(clks s M k).length=cnt s k
 | 0,_=>by simp [clks,cnt]
 | k+1,hk=>by
  have hk':k < s.Steps.length:=by omega
  rw [clks_succ,List.length_append,clks_cnt hM k (by omega),cnt_succ hk']
  unfold clkOf
  rw [List.getElem?_eq_getElem hk',List.getElem?_eq_getElem (show k < M.length by omega)]
  dsimp only
  split<;>simp
theorem bas1_len {s:SSequence}:(bas1 s).length=gnn s+tn s:=by
 unfold bas1;rw [List.length_append,lns_len,clks_cnt bel_len _ (Nat.le_refl _)];rfl
theorem bas_len {s:SSequence}:(bas s).length=gnn s+tn s+s.Steps.length:=by
 unfold bas;rw [List.length_append,bas1_len,stSigs_len]
def pm (s:SSequence) (d:Int) (k:Nat):List Int:=(List.range k).map fun j:Nat=>fst s+((bas s).length:Int)+2*(j:Int)+d
theorem pm_succ {s:SSequence} {d:Int} {k:Nat}:pm s d (k+1)=pm s d k++[fst s+((bas s).length:Int)+2*(k:Int)+d]:=by
 unfold pm;rw [List.range_succ,List.map_append];rfl
theorem pm_len {s:SSequence} {d:Int} {k:Nat}:(pm s d k).length=k:=by simp [pm]
def stt:List (List UInt8):=[[115,116,97,114,116]]
def ctl (s:SSequence):SControl:=⟨s.Actuators,stt,bas s++pils s (sts s s.Steps.length) s.Actuators.toNat,pm s 0 s.Actuators.toNat,pm s 1 s.Actuators.toNat⟩
theorem lns_ne {s:SSequence} (h:Right s):nonE (lns s)=some ():=by
 have:=(div_facts h).1
 have e:=lns_len (s:=s)
 cases hq:lns s with
 | nil=>rw [hq] at e;simp at e;omega
 | cons a l=>rfl
theorem tn_le {s:SSequence}:tn s≤s.Steps.length:=cnt_le s _
theorem m62_eq {s:SSequence} (h:Right s):m62 s=some (ctl s):=by
 have ha1:=h.a1
 have ha6:=h.a6
 have hn:=h.n64
 have hf:=fst_le h.a1 h.a6
 have htn:=tn_le (s:=s)
 obtain ⟨f1,f2,f3,f4⟩:=div_facts h
 have hl1:=lns_len (s:=s)
 have hkl:=clks_len s (bel s s.Steps.length) s.Steps.length
 have hb1:=bas1_len (s:=s)
 have hb:=bas_len (s:=s)
 have hpl:=pils_len s (sts s s.Steps.length) s.Actuators.toNat
 have hst:∀ k (hk:k < s.Steps.length),StepOk s.Steps[k]:=fun k hk=>(h.step k hk).ok
 unfold m62 m152
 rw [m74_eq h]
 simp only [Option.bind_some]
 rw [m107_eq h]
 simp only [Option.bind_some]
 rw [lns_ne h,m108_eq h]
 simp only [Option.bind_some]
 rw [show m86 (pln s) (bel s s.Steps.length)=_ from m86_eq s _ _ (tc_nn h) hn bel_len hst]
 simp only [Option.bind_some]
 rw [appc_eq (by omega) (by omega)]
 simp only [Option.bind_some]
 rw [show lns s++clks s (bel s s.Steps.length) s.Steps.length=bas1 s from rfl]
 rw [iter_fold (fun k:Nat=>((k:Int),(0:Int),([]:List (List UInt8)),([]:List SSignal),([]:List Int),([]:List Int),([[115,116,97,114,116]]:List (List UInt8)),bas1 s++stSigs s k,s.Actuators)) s.Steps.length ?hn
  ((0:Int),([]:List (List UInt8)),([]:List SSignal),([]:List Int),([]:List Int),([[115,116,97,114,116]]:List (List UInt8)),bas s,s.Actuators) ?h0 ?h ?he]
 case hn=>unfold fuel;omega
 case h0=>simp [stSigs]
 case he=>
  try dsimp only
  rw [cond_f (lt_f (by omega))];rfl
 case h=>
  intro k hk
  try dsimp only
  have hsl:=stSigs_len (s:=s) (k:=k)
  obtain ⟨t,ht,ht2⟩:=num_eq (p:=[115]) (.inr (.inl rfl)) (show k < 100 by omega)
  have hnm:nameOf [115] k=t:=by unfold nameOf;rw [ht];rfl
  rw [cond_t (lt_t (by omega)),ht,m110_eq h hk]
  simp only [Option.bind_some,SExpr.eta3]
  rw [appc_eq (by rw [List.length_append];simp;omega) (by rw [List.length_append];simp;omega)]
  simp only [Option.bind_some]
  rw [addI_nat (by omega),stSigs_succ,List.append_assoc]
  unfold stSig
  rw [hnm];rfl
 simp only [Option.bind_some]
 rw [m72_eq h]
 simp only [Option.bind_some]
 rw [show m88 (pln s) (sts s s.Steps.length)=_ from m88_eq s _ _ ha1 ha6 hn sts_len hst]
 simp only [Option.bind_some]
 rw [appc_eq (by rw [hpl];omega) (by rw [hpl];omega)]
 simp only [Option.bind_some,act2 h.good]
 have hll:((bas s++pils s (sts s s.Steps.length) s.Actuators.toNat).length:Int)=((bas s).length:Int)+2*s.Actuators:=by rw [List.length_append,hpl];omega
 rw [hll]
 have e1:addI .i64 (2*s.Actuators) (([[115,116,97,114,116]]:List (List UInt8)).length:Int)=fst s:=by
  rw [addI_eq (by simp;omega) (by simp;omega)];rfl
 rw [e1,addI_eq (show -9223372036854775808≤fst s+(((bas s).length:Int)+2*s.Actuators) by omega) (by omega)]
 have e2:subI .i64 (fst s+(((bas s).length:Int)+2*s.Actuators)) (2*s.Actuators)=fst s+((bas s).length:Int):=by
  rw [subI_eq (by omega) (by omega)];omega
 rw [e2]
 rw [iter_fold (fun k:Nat=>((k:Int),(0:Int),([]:List (List UInt8)),([]:List SSignal),([]:List Int),([]:List Int),([[115,116,97,114,116]]:List (List UInt8)),bas s++pils s (sts s s.Steps.length) s.Actuators.toNat,s.Actuators,s.Actuators,(0:Int),([]:List (List UInt8)),([]:List SSignal),([]:List Int),([]:List Int),pm s 0 k,pm s 1 k)) s.Actuators.toNat ?hn
  ((0:Int),([]:List (List UInt8)),([]:List SSignal),([]:List Int),([]:List Int),([[115,116,97,114,116]]:List (List UInt8)),bas s++pils s (sts s s.Steps.length) s.Actuators.toNat,s.Actuators,s.Actuators,(0:Int),([]:List (List UInt8)),([]:List SSignal),([]:List Int),([]:List Int),pm s 0 s.Actuators.toNat,pm s 1 s.Actuators.toNat) ?h0 ?h ?he]
 case hn=>unfold fuel;omega
 case h0=>simp [pm]
 case he=>
  try dsimp only
  rw [cond_f (lt_f (by omega))]
 case h=>
  intro k hk
  try dsimp only
  have hp0:=pm_len (s:=s) (d:=0) (k:=k)
  have hp1:=pm_len (s:=s) (d:=1) (k:=k)
  have e3:mulI .i64 2 (k:Int)=2*(k:Int):=mulI_eq (by omega) (by omega)
  rw [cond_t (lt_t (by omega)),e3,addI_eq (show -9223372036854775808≤fst s+((bas s).length:Int)+2*(k:Int) by omega) (by omega)]
  rw [addI_eq (show -9223372036854775808≤fst s+((bas s).length:Int)+2*(k:Int)+1 by omega) (by omega)]
  rw [appc_eq (by simp [hp0];omega) (by simp [hp0];omega),appc_eq (by simp [hp1];omega) (by simp [hp1];omega)]
  simp only [Option.bind_some]
  rw [pm_succ,pm_succ,addI_nat (by omega),Int.add_zero]
 rfl
def err (s:SSequence):Int:=if chk s≠0 then chk s else if 64 < gnn s+tn s+s.Steps.length+2*s.Actuators.toNat then 5 else 0
theorem m61_eq (s:SSequence) (hs:Small s):m61 s=some (err s):=by
 unfold m61 err
 rw [m49_eq s hs]
 simp only [Option.bind_some]
 by_cases hc:chk s=0
 ·have h:=chk_right hc
  have ha1:=h.a1
  have ha6:=h.a6
  have hn:=h.n64
  have htn:=tn_le (s:=s)
  obtain ⟨f1,f2,f3,f4⟩:=div_facts h
  rw [hc,cond_f (by rfl),m73_eq h,m74_eq h]
  simp only [Option.bind_some]
  rw [m75_pln h,if_neg (show ¬ (0:Int)≠0 by decide),few_gn]
  simp only [Option.bind_some,act2 h.good]
  rw [addI_eq (show -9223372036854775808≤(gnn s:Int)+(tn s:Int) by omega) (by omega),addI_eq (show -9223372036854775808≤(gnn s:Int)+(tn s:Int)+(s.Steps.length:Int) by omega) (by omega),addI_eq (by omega) (by omega)]
  by_cases hb:64 < gnn s+tn s+s.Steps.length+2*s.Actuators.toNat
  ·rw [if_pos hb,cond_t (by simp only [decide_eq_true_eq];omega)]
  ·rw [if_neg hb,cond_f (by simp only [decide_eq_false_iff_not];omega)]
 ·rw [if_pos hc,cond_t (by simpa using hc)]
end G33
