/- Parts of my machine and its laws, joined: P32p P32q. No condition. -/
import Derived.Test.YtafgdbaekppjcaaGreatDoorP32d
set_option linter.unusedSectionVars false
set_option linter.unusedVariables false
set_option linter.unusedSimpArgs false
section
namespace G33
open Go Go.Pl
set_option linter.unusedVariables false
set_option linter.unusedSimpArgs false
theorem iter_fst {σ ρ:Type} {body:σ→Option (σ⊕ρ)} {s0:σ} (st:Nat→σ) (g:Nat→Option ρ) (n:Nat) (hn:n < fuel) (u:ρ) (h0:s0=st 0)
 (h:∀ k,k < n→(∀ j,j < k→g j=none)→body (st k)=some (match g k with | none=> .inl (st (k+1)) | some r=> .inr r))
 (he:(∀ j,j < n→g j=none)→body (st n)=some (.inr u)):iter body s0=some ((first n g).getD u):=by
 subst h0
 have key:∀ m k,k≤n→n - k < m→(∀ j,j < k→g j=none)→iterN body m (st k)=some ((first n g).getD u):=by
  intro m
  induction m with
  | zero=>intro k _ hlt;omega
  | succ m ih=>
   intro k hk hm hj
   rw [iterN]
   by_cases hkn:k < n
   ·rw [h k hkn hj]
    cases hg:g k with
    | none=>
     exact ih (k+1) hkn (by omega) (fun j hj'=>by
      rcases Nat.lt_or_ge j k with e | e
      ·exact hj j e
      ·have:j=k:=by omega
       subst this;exact hg)
    | some r=>simp only [first_some hkn hj hg,Option.getD_some]
   ·have:k=n:=by omega
    subst this
    rw [he hj,first_none hj];rfl
 exact key fuel 0 (Nat.zero_le _) (by omega) (fun j hj=>by omega)
theorem m129_nat {s:SSequence} (h:Right s) {i j:Nat} (hi:i < s.Steps.length) (hj:j < s.Steps.length):m129 s i j=some (!decide (mk s i&&& mk s j=0)):=by
 rw [m129_eq h hi hj,←stp_lt hi,←stp_lt hj,share_mk h]
theorem m73_eq {s:SSequence} (h:Right s):m73 s=some (few s):=by
 have hn0:=h.n0
 have hn:=h.n64
 unfold m73
 rw [iter_fold (fun k:Nat=>(((k+1:Nat):Int),ints (gre s 0 (k+1)).1)) (s.Steps.length - 1) ?hn (few s) ?h0 ?h ?he]
 case hn=>unfold fuel;omega
 case h0=>rw [show gre s 0 (0+1)=([0],1) from if_pos (alone_one s 0)];rfl
 case he=>
  try dsimp only
  rw [cond_f (lt_f (by omega)),show s.Steps.length - 1+1=s.Steps.length by omega];rfl
 case h=>
  intro k hk
  try dsimp only
  have g:=greedy s 0 (k+1)
  have hne:=g.ne
  have hle:=g.le
  have hsz:=g.sz
  have hal:=g.al
  rw [show gre s 0 (k+1+1)=if alone s ((gre s 0 (k+1)).1.getD ((gre s 0 (k+1)).1.length - 1) 0) ((gre s 0 (k+1)).2+1)=true then ((gre s 0 (k+1)).1,(gre s 0 (k+1)).2+1) else ((gre s 0 (k+1)).1++[0+(k+1)],1) from rfl]
  rw [cond_t (lt_t (by omega)),ints_len,sub_nat hne (by omega),idx_lt (show (gre s 0 (k+1)).1.length - 1 < (ints (gre s 0 (k+1)).1).length by rw [ints_len];omega)]
  simp only [Option.bind_some]
  rw [←getD_lt (d:=0),ints_getD]
  generalize hf:(gre s 0 (k+1)).1.getD ((gre s 0 (k+1)).1.length - 1) 0=f at hsz hal ⊢
  generalize hz:(gre s 0 (k+1)).2=z at hsz hal ⊢
  generalize ho:(gre s 0 (k+1)).1=o at hne hle ⊢
  have ha:alone s f (z+1)=true↔∀ i,i < z→mk s (f+i)&&& mk s (f+z)=0:=by
   rw [alone_succ,acc_zero];exact ⟨fun h=>h.2,fun h=>⟨hal,h⟩⟩
  rw [iter_fst (fun i:Nat=>(((f+i:Nat):Int),ints o)) (fun i=>if mk s (f+i)&&& mk s (f+z)=0 then none else some (ints o++[((k+1:Nat):Int)])) z ?hn (ints o) ?h0 ?h ?he]
  case hn=>unfold fuel;omega
  case h0=>rfl
  case he=>
   intro _
   try dsimp only
   rw [cond_f (lt_f (by omega))]
  case h=>
   intro i hi _
   try dsimp only
   rw [cond_t (lt_t (by omega)),m129_nat h (show f+i < s.Steps.length by omega) (show k+1 < s.Steps.length by omega)]
   simp only [Option.bind_some]
   rw [show k+1=f+z by omega]
   by_cases hc:mk s (f+i)&&& mk s (f+z)=0
   ·rw [if_pos hc,cond_f (by simp [hc]),addI_nat (by omega)];rfl
   ·rw [if_neg hc,cond_t (by simp [hc]),appc_eq (by simp only [List.length_singleton,ints_len];omega) (by simp only [List.length_singleton,ints_len];omega)];rfl
  simp only [Option.bind_some]
  rw [addI_nat (by omega)]
  by_cases hc:alone s f (z+1)=true
  ·rw [if_pos hc,first_none (fun i hi=>by rw [if_pos (ha.1 hc i hi)])];rfl
  ·rw [if_neg hc]
   cases hff:first z (fun i=>if mk s (f+i)&&& mk s (f+z)=0 then none else some (ints o++[((k+1:Nat):Int)])) with
   | none=>
    exfalso
    rw [first_none_iff] at hff
    refine hc (ha.2 fun i hi=>?_)
    have:=hff i hi
    refine Classical.byContradiction fun hx=>?_
    rw [if_neg hx] at this;cases this
   | some r=>
    unfold first at hff
    obtain ⟨i,_,hi⟩:=List.exists_of_findSome?_eq_some hff
    split at hi
    ·cases hi
    ·injection hi with hi
     subst hi
     simp [ints]
 rfl
def div (s:SSequence):List Nat:=(gre s 0 s.Steps.length).1
def gnn (s:SSequence):Nat:=(div s).length
theorem few_div (s:SSequence):few s=ints (div s):=rfl
theorem few_gn (s:SSequence):(few s).length=gnn s:=ints_len _
theorem div_facts {s:SSequence} (h:Right s):0 < gnn s∧gnn s≤s.Steps.length∧(div s).getD 0 0=0∧∀ j,j < gnn s→(div s).getD j 0 < s.Steps.length∧j≤(div s).getD j 0:=by
 have hn:=h.n0
 have g:=greedy s 0 s.Steps.length
 have hne:=g.ne
 have hsz:=g.sz
 have hz:=g.zp hn
 have hb:=g.big ((gre s 0 s.Steps.length).1.length - 1) (by omega)
 unfold gnn div
 refine ⟨hne,by omega,g.hd,fun j hj=>⟨?_,?_⟩⟩
 ·have:=g.last j hj;omega
 ·have:=g.big j hj;omega
def lst (s:SSequence) (j:Nat):Nat:=if j+1 < gnn s then (div s).getD (j+1) 0 - 1 else s.Steps.length - 1
theorem lst_lt {s:SSequence} (h:Right s) (j:Nat):lst s j < s.Steps.length:=by
 have:=h.n0
 unfold lst
 split
 ·rename_i hj;have:=((div_facts h).2.2.2 (j+1) hj).1;omega
 ·omega
theorem few_idx {s:SSequence} {j:Nat} (hj:j < gnn s):idx (few s) (j:Int)=some ((div s).getD j 0:Int):=by
 rw [idx_lt (by rw [few_gn];exact hj),←getD_lt (d:=0),few_div,ints_getD]
def top (o:List Nat) (k:Nat):Nat→Nat
 | 0=>0
 | m+1=>if o.getD m 0≤k then m else top o k m
theorem top_lt {o:List Nat} {k:Nat}:∀ {m:Nat},0 < m→top o k m < m
 | 0,h=>by omega
 | m+1,_=>by
  rw [top]
  split
  ·omega
  ·by_cases hm:0 < m
   ·have:=top_lt (o:=o) (k:=k) hm;omega
   ·have:m=0:=by omega
    subst this;simp [top]
def grp (s:SSequence) (k:Nat):Nat:=top (div s) k (gnn s)
theorem grp_lt {s:SSequence} (h:Right s) (k:Nat):grp s k < gnn s:=top_lt (div_facts h).1
def gl (s:SSequence):List Int:=if gnn s=2 then [fst s+1,fst s] else mods (fst s) (gnn s)
theorem gl_len (s:SSequence):(gl s).length=gnn s:=by
 unfold gl
 split
 ·rename_i h;rw [h];rfl
 ·simp [mods]
theorem m128_eq {s:SSequence} (h:Right s):m128 s=some (fst s):=by
 unfold m128;rw [fst_eq h.a1 h.a6]
theorem m71_eq {s:SSequence} (h:Right s):m71 s=some (gl s):=by
 have hf:=fst_le h.a1 h.a6
 have hn:=h.n64
 obtain ⟨f1,f2,f3,f4⟩:=div_facts h
 unfold m71 gl
 rw [m73_eq h,m128_eq h]
 simp only [Option.bind_some]
 rw [few_gn]
 by_cases h2:gnn s=2
 ·rw [cond_t (by simp [h2]),if_pos h2,addI_eq (by omega) (by omega)]
 ·rw [cond_f (by simp;omega),if_neg h2]
  rw [iter_fold (fun k:Nat=>((k:Int),mods (fst s) k)) (gnn s) ?hn (mods (fst s) (gnn s)) ?h0 ?h ?he]
  case hn=>unfold fuel;omega
  case h0=>simp [mods]
  case he=>
   try dsimp only
   rw [cond_f (lt_f (by omega))]
  case h=>
   intro k hk
   try dsimp only
   have hlm:(mods (fst s) k).length=k:=by simp [mods]
   rw [cond_t (lt_t (by omega)),appc_eq (by simp [hlm];omega) (by simp [hlm];omega)]
   simp only [Option.bind_some]
   rw [addI_nat (by omega),addI_eq (by omega) (by omega),mods_succ]
  rfl
def tc (s:SSequence):Int:=fst s+(gnn s:Int)
def pln (s:SSequence):SPlan:=⟨s,tms s (tc s) s.Steps.length⟩
theorem tc_nn {s:SSequence} (h:Right s):0≤tc s:=by
 have:=fst_le h.a1 h.a6;unfold tc;omega
theorem m74_eq {s:SSequence} (h:Right s):m74 s=some (pln s):=by
 have hf:=fst_le h.a1 h.a6
 have hn:=h.n64
 obtain ⟨f1,f2,f3,f4⟩:=div_facts h
 unfold m74
 rw [m128_eq h,m73_eq h]
 simp only [Option.bind_some]
 rw [few_gn,addI_eq (by omega) (by omega),m130_eq s _ hn (by omega) (by omega)];rfl
def bel (s:SSequence) (k:Nat):List Int:=(List.range k).map fun j=>(gl s).getD (grp s j) 0
theorem bel_len {s:SSequence} {k:Nat}:(bel s k).length=k:=by simp [bel]
theorem gl_idx {s:SSequence} {j:Nat} (hj:j < gnn s):idx (gl s) (j:Int)=some ((gl s).getD j 0):=by
 rw [idx_lt (by rw [gl_len];exact hj),←getD_lt (d:=0)]
end G33
end
section
namespace G33
open Go Go.Pl
set_option linter.unusedVariables false
set_option linter.unusedSimpArgs false
theorem Right.good {s:SSequence} (h:Right s):Good s:=⟨h.a1,h.a6,h.n0,h.n64,fun i hi=>(h.step i hi).ok⟩
theorem end_lenR {s:SSequence} (h:Right s) (n:Int) (k:Nat):(endE s n k).length≤6:=by
 by_cases hk:k < s.Steps.length
 ·exact endE_len h.good hk
 ·unfold endE
  rw [List.getElem?_eq_none (by omega)]
  exact Nat.zero_le _
def grSig (s:SSequence) (j:Nat):SSignal:=
 ⟨nameOf [103] j,1,sev 3 (lineE (fst s+((j+gnn s - 1) % gnn s:Nat))::endE s (tc s) (lst s ((j+gnn s - 1) % gnn s))),
  lineE (fst s+((j+1) % gnn s:Nat)),0,(j:Int)==0⟩
def grSigs (s:SSequence) (k:Nat):List SSignal:=(List.range k).map (grSig s)
theorem grSigs_succ {s:SSequence} {k:Nat}:grSigs s (k+1)=grSigs s k++[grSig s k]:=by
 unfold grSigs;rw [List.range_succ,List.map_append];rfl
def two (s:SSequence):List SSignal:=
 [⟨[103,49],1,sev 3 (endE s (tc s) (lst s 0)),sev 3 (endE s (tc s) (lst s 1)),0,false⟩,⟨[103,48],0,⟨2,0,[lineE (fst s)]⟩,noE,0,false⟩]
def lns (s:SSequence):List SSignal:=if gnn s=2 then two s else grSigs s (gnn s)
theorem lns_len {s:SSequence}:(lns s).length=gnn s:=by
 unfold lns
 split
 ·rename_i h;rw [h];rfl
 ·simp [grSigs]
def more (s:SSequence) (k:Nat):List SExpr:=if k=0 then [lineE (2*s.Actuators)] else if (div s).getD (grp s k) 0 < k then endE s (tc s) (k - 1) else []
theorem more_len {s:SSequence} (h:Right s) (k:Nat):(more s k).length≤6:=by
 unfold more
 split
 ·simp
 ·split
  ·exact end_lenR h _ _
  ·simp
def glk (s:SSequence) (k:Nat):Int:=(gl s).getD (grp s k) 0
def beg (s:SSequence) (k:Nat):SExpr:=sev 3 (lineE (glk s k)::more s k)
theorem top_le {o:List Nat} {k:Nat} (h0:o.getD 0 0=0):∀ {m:Nat},0 < m→o.getD (top o k m) 0≤k
 | 0,h=>by omega
 | m+1,_=>by
  rw [top]
  split
  ·assumption
  ·rename_i hc
   have:0 < m:=by
    refine Nat.pos_of_ne_zero fun hm=>?_
    subst hm;omega
   exact top_le h0 this
theorem grp_le {s:SSequence} (h:Right s) (k:Nat):(div s).getD (grp s k) 0≤k:=top_le (div_facts h).2.2.1 (div_facts h).1
def tn (s:SSequence):Nat:=cnt s s.Steps.length
def sts (s:SSequence) (k:Nat):List Int:=(List.range k).map fun j:Nat=>fst s+(gnn s:Int)+(tn s:Int)+(j:Int)
theorem sts_len {s:SSequence} {k:Nat}:(sts s k).length=k:=by simp [sts]
theorem sts_succ {s:SSequence} {k:Nat}:sts s (k+1)=sts s k++[fst s+(gnn s:Int)+(tn s:Int)+(k:Int)]:=by
 unfold sts;rw [List.range_succ,List.map_append];rfl
theorem m75_pln {s:SSequence} (h:Right s):m75 (pln s)=some (tn s:Int):=m75_eq s _ (tc_nn h) h.n64
theorem m72_eq {s:SSequence} (h:Right s):m72 s=some (sts s s.Steps.length):=by
 have hf:=fst_le h.a1 h.a6
 have hn:=h.n64
 have hc:=cnt_le s s.Steps.length
 have htn:tn s≤64:=by unfold tn;omega
 obtain ⟨f1,f2,f3,f4⟩:=div_facts h
 unfold m72
 rw [m74_eq h]
 simp only [Option.bind_some]
 rw [iter_fold (fun k:Nat=>((k:Int),sts s k)) s.Steps.length ?hn (sts s s.Steps.length) ?h0 ?h ?he]
 case hn=>unfold fuel;omega
 case h0=>rfl
 case he=>
  try dsimp only
  rw [cond_f (lt_f (by omega))]
 case h=>
  intro k hk
  try dsimp only
  have hl:=sts_len (s:=s) (k:=k)
  rw [cond_t (lt_t (by omega)),m128_eq h,m73_eq h,m75_pln h]
  simp only [Option.bind_some]
  rw [few_gn,addI_eq (show -9223372036854775808≤fst s+(gnn s:Int) by omega) (by omega),addI_eq (show -9223372036854775808≤fst s+(gnn s:Int)+(tn s:Int) by omega) (by omega),addI_eq (by omega) (by omega)]
  rw [appc_eq (by simp [hl];omega) (by simp [hl];omega),addI_nat (by omega),sts_succ];rfl
 rfl
def stSig (s:SSequence) (k:Nat):SSignal:=⟨nameOf [115] k,0,beg s k,noE,0,false⟩
def stSigs (s:SSequence) (k:Nat):List SSignal:=(List.range k).map (stSig s)
theorem stSigs_succ {s:SSequence} {k:Nat}:stSigs s (k+1)=stSigs s k++[stSig s k]:=by
 unfold stSigs;rw [List.range_succ,List.map_append];rfl
theorem stSigs_len {s:SSequence} {k:Nat}:(stSigs s k).length=k:=by simp [stSigs]
def bas1 (s:SSequence):List SSignal:=lns s++clks s (bel s s.Steps.length) s.Steps.length
def bas (s:SSequence):List SSignal:=bas1 s++stSigs s s.Steps.length
theorem clks_cnt {s:SSequence} {M:List Int} (hM:M.length=s.Steps.length):∀ k,k≤s.Steps.length→(clks s M k).length=cnt s k
 | 0,_=>by simp [clks,cnt]
 | k+1,hk=>by
  have hk':k < s.Steps.length:=by omega
  rw [clks_succ,List.length_append,clks_cnt hM k (by omega),cnt_succ hk']
  unfold clkOf
  rw [List.getElem?_eq_getElem hk',List.getElem?_eq_getElem (show k < M.length by omega)]
  dsimp only
  split<;>simp
theorem bas1_len {s:SSequence}:(bas1 s).length=gnn s+tn s:=by
 unfold bas1;rw [List.length_append,lns_len,clks_cnt bel_len _ (Nat.le_refl _)];rfl
theorem bas_len {s:SSequence}:(bas s).length=gnn s+tn s+s.Steps.length:=by
 unfold bas;rw [List.length_append,bas1_len,stSigs_len]
def pm (s:SSequence) (d:Int) (k:Nat):List Int:=(List.range k).map fun j:Nat=>fst s+((bas s).length:Int)+2*(j:Int)+d
theorem pm_succ {s:SSequence} {d:Int} {k:Nat}:pm s d (k+1)=pm s d k++[fst s+((bas s).length:Int)+2*(k:Int)+d]:=by
 unfold pm;rw [List.range_succ,List.map_append];rfl
theorem pm_len {s:SSequence} {d:Int} {k:Nat}:(pm s d k).length=k:=by simp [pm]
def stt:List (List UInt8):=[[115,116,97,114,116]]
def ctl (s:SSequence):SControl:=⟨s.Actuators,stt,bas s++pils s (sts s s.Steps.length) s.Actuators.toNat,pm s 0 s.Actuators.toNat,pm s 1 s.Actuators.toNat⟩
theorem tn_le {s:SSequence}:tn s≤s.Steps.length:=cnt_le s _
def err (s:SSequence):Int:=if chk s≠0 then chk s else if 64 < gnn s+tn s+s.Steps.length+2*s.Actuators.toNat then 5 else 0
theorem m61_eq (s:SSequence) (hs:Small s):m61 s=some (err s):=by
 unfold m61 err
 rw [m49_eq s hs]
 simp only [Option.bind_some]
 by_cases hc:chk s=0
 ·have h:=chk_right hc
  have ha1:=h.a1
  have ha6:=h.a6
  have hn:=h.n64
  have htn:=tn_le (s:=s)
  obtain ⟨f1,f2,f3,f4⟩:=div_facts h
  rw [hc,cond_f (by rfl),m73_eq h,m74_eq h]
  simp only [Option.bind_some]
  rw [m75_pln h,if_neg (show ¬ (0:Int)≠0 by decide),few_gn]
  simp only [Option.bind_some,act2 h.good]
  rw [addI_eq (show -9223372036854775808≤(gnn s:Int)+(tn s:Int) by omega) (by omega),addI_eq (show -9223372036854775808≤(gnn s:Int)+(tn s:Int)+(s.Steps.length:Int) by omega) (by omega),addI_eq (by omega) (by omega)]
  by_cases hb:64 < gnn s+tn s+s.Steps.length+2*s.Actuators.toNat
  ·rw [if_pos hb,cond_t (by simp only [decide_eq_true_eq];omega)]
  ·rw [if_neg hb,cond_f (by simp only [decide_eq_false_iff_not];omega)]
 ·rw [if_pos hc,cond_t (by simpa using hc)]
end G33
end
