/- Plain laws of chapter 32's models: the program's builder. No condition. -/
import Derived.Test.YtafgdbaekppjcaaGreatDoorP32p
set_option linter.unusedSectionVars false
set_option linter.unusedVariables false
set_option linter.unusedSimpArgs false
namespace G33
open Go Go.Pl
set_option linter.unusedVariables false
set_option linter.unusedSimpArgs false
theorem end_def (s:SSequence) (n:Int) {k:Nat} (hk:k < s.Steps.length):endE s n k=if s.Steps[k].Wait=0 then s.Steps[k].Strokes.map swE else [lineE (tmAt s n k)]:=by
 unfold endE;rw [List.getElem?_eq_getElem hk]
theorem sev_ne {a:Int} {l:List SExpr} (h:l.length≠1):sev a l=⟨a,0,l⟩:=by
 unfold sev
 split
 ·exact absurd rfl h
 ·rfl
theorem sev_one {a:Int} {x:SExpr}:sev a [x]=x:=rfl
theorem num_of {p:List UInt8} (hp:p=[103]∨p=[115]∨p=[119]) {k:Nat} (hk:k < 100):∃ v,m172 k=some v∧catc p v=some (nameOf p k):=by
 obtain ⟨t,ht,ht2⟩:=num_eq hp hk
 obtain ⟨v,hv,hv2⟩:=Option.bind_eq_some_iff.mp ht2
 exact ⟨v,hv,by rw [hv2];unfold nameOf;rw [ht];rfl⟩
theorem top_succ {o:List Nat} {k m:Nat} (h:¬ o.getD m 0≤k):top o k (m+1)=top o k m:=by rw [top,if_neg h]
theorem top_at {o:List Nat} {k m:Nat} (h:o.getD m 0≤k):top o k (m+1)=m:=by rw [top,if_pos h]
theorem top_above {o:List Nat} {k:Nat}:∀ {m j:Nat},top o k m < j→j < m→¬ o.getD j 0≤k
 | 0,j,_,h=>by omega
 | m+1,j,h1,h2=>by
  by_cases hc:o.getD m 0≤k
  ·rw [top_at hc] at h1;omega
  ·rw [top_succ hc] at h1
   by_cases hj:j=m
   ·subst hj;exact hc
   ·exact top_above h1 (by omega)
theorem hit_any (l:List SStroke) (a:Int) (o:Bool) (hl:l.length≤6):m176 l ⟨a,o⟩=some (l.any (hit a o)):=by
 unfold m176 m226
 rw [iter_first (fun k:Nat=>(k:Int)) (fun k=>match l[k]? with | some b=>bif hit a o b then some (k:Int) else none | none=>none) l.length ?hn () ?h0 ?h ?he]
 case hn=>unfold fuel;omega
 case h0=>rfl
 case he=>
  intro _
  try dsimp only
  rw [cond_f (lt_f (by omega))]
 case h=>
  intro k hk _
  try dsimp only
  rw [cond_t (lt_t (by omega)),idx_lt hk,List.getElem?_eq_getElem hk]
  simp only [Option.bind_some]
  have eh:((a==l[k].Actuator&&(o==l[k].Out&&true)) !=false)=hit a o l[k]:=by
   unfold hit
   rw [show (a==l[k].Actuator)=(l[k].Actuator==a) from Bool.beq_comm ..,show (o==l[k].Out)=(l[k].Out==o) from Bool.beq_comm ..]
   simp
  rw [eh,addI_nat (by omega)]
  cases hit a o l[k]<;>rfl
 rw [←any_first l (hit a o)]
 cases first l.length (fun k=>match l[k]? with | some b=>bif hit a o b then some (k:Int) else none | none=>none)<;>rfl
theorem m60_eq {s:SSequence} (hc:chk s=0):m60 s=some (if 64 < gnn s+tn s+s.Steps.length+2*s.Actuators.toNat then (none,5) else (some ⟨s,few s,gl s,tms s (tc s) s.Steps.length,sts s s.Steps.length,ctl s⟩,0)):=by
 have h:=chk_right hc
 have ha1:=h.a1
 have ha6:=h.a6
 have hn0:=h.n0
 have hn:=h.n64
 have hf:=fst_le h.a1 h.a6
 have htc:=tc_nn h
 have htn:=tn_le (s:=s)
 have hst:∀ k (hk:k < s.Steps.length),StepOk s.Steps[k]:=fun k hk=>(h.step k hk).ok
 obtain ⟨f1,f2,f3,f4⟩:=div_facts h
 have hlt:=lst_lt h
 have efst:=fst_eq h.a1 h.a6
 have eact:=act2 h.good
 unfold m60
 rw [m81_eq,hc]
 refine Eq.trans (b:=((m101 s).bind _)) rfl ?_
 rw [m101_eq,if_pos hc]
 refine (bind_val (v:=(few s,(0:Int))) rfl).trans ?_
 refine (cond_f (by rfl)).trans ?_
 try dsimp only
 refine (bind_val (v:=(([[115,116,97,114,116]]:List (List UInt8)),s.Actuators,s.Steps,few s,s.Actuators,mods (fst s) (gnn s),([]:List Int),([]:List Int),([]:List SSignal),([]:List Int),([]:List Int))) ?_).trans ?_
 ·try dsimp only
  rw [iter_fold (fun k:Nat=>((k:Int),([[115,116,97,114,116]]:List (List UInt8)),s.Actuators,s.Steps,few s,s.Actuators,mods (fst s) k,([]:List Int),([]:List Int),([]:List SSignal),([]:List Int),([]:List Int))) (gnn s) ?hn (([[115,116,97,114,116]]:List (List UInt8)),s.Actuators,s.Steps,few s,s.Actuators,mods (fst s) (gnn s),([]:List Int),([]:List Int),([]:List SSignal),([]:List Int),([]:List Int)) ?h0 ?h ?he]
  case hn=>unfold fuel;omega
  case h0=>simp [mods]
  case he=>
   try dsimp only
   rw [few_gn,cond_f (lt_f (by omega))]
  case h=>
   intro k hk
   try dsimp only
   have hlm:(mods (fst s) k).length=k:=by simp [mods]
   rw [few_gn,cond_t (lt_t (by omega)),efst,appc_eq (by simp [hlm];omega) (by simp [hlm];omega)]
   simp only [Option.bind_some]
   rw [addI_nat (by omega),addI_eq (by omega) (by omega),mods_succ]
 try dsimp only
 refine (bind_val (v:=(([[115,116,97,114,116]]:List (List UInt8)),s.Actuators,s.Steps,few s,s.Actuators,gl s,([]:List Int),([]:List Int),([]:List SSignal),([]:List Int),([]:List Int))) ?_).trans ?_
 ·try dsimp only
  rw [few_gn]
  by_cases h2:gnn s=2
  ·rw [cond_t (by simp [h2]),h2]
   have e1:mods (fst s) 2=[fst s,fst s+1]:=by simp [mods,List.range_succ]
   have e2:gl s=[fst s+1,fst s]:=by unfold gl;rw [if_pos h2]
   rw [e1,e2]
   refine (bind_val (v:=(([[115,116,97,114,116]]:List (List UInt8)),s.Actuators,s.Steps,few s,s.Actuators,[fst s+1,fst s],([]:List Int),([]:List Int),([]:List SSignal),([]:List Int),([]:List Int))) ?_).trans ?_
   ·rfl
   ·rfl
  ·rw [cond_f (by simp;omega)]
   have e2:gl s=mods (fst s) (gnn s):=by unfold gl;rw [if_neg h2]
   rw [e2]
 try dsimp only
 refine (bind_val (v:=(([[115,116,97,114,116]]:List (List UInt8)),s.Actuators,s.Steps,few s,s.Actuators,gl s,tms s (tc s) s.Steps.length,([]:List Int),([]:List SSignal),([]:List Int),([]:List Int))) ?_).trans ?_
 ·try dsimp only
  rw [few_gn,efst,addI_eq (show -9223372036854775808≤fst s+(gnn s:Int) by omega) (by omega)]
  rw [iter_fold (fun k:Nat=>(tc s+(cnt s k:Int),(k:Int),([[115,116,97,114,116]]:List (List UInt8)),s.Actuators,s.Steps,few s,s.Actuators,gl s,tms s (tc s) k,([]:List Int),([]:List SSignal),([]:List Int),([]:List Int))) s.Steps.length ?hn (([[115,116,97,114,116]]:List (List UInt8)),s.Actuators,s.Steps,few s,s.Actuators,gl s,tms s (tc s) s.Steps.length,([]:List Int),([]:List SSignal),([]:List Int),([]:List Int)) ?h0 ?h ?he]
  case hn=>unfold fuel;omega
  case h0=>simp [cnt,tms,tc]
  case he=>
   try dsimp only
   rw [cond_f (lt_f (by omega))]
  case h=>
   intro k hk
   try dsimp only
   have hc:=cnt_le s k
   have htb:tc s≤100:=by unfold tc;omega
   have hlen:(tms s (tc s) k).length=k:=by simp [tms]
   rw [cond_t (lt_t (by omega)),idx_lt hk]
   simp only [Option.bind_some]
   rw [appc_eq (by simp [hlen];omega) (by simp [hlen];omega),appc_eq (by simp [hlen];omega) (by simp [hlen];omega)]
   have ht:tmAt s (tc s) k=if s.Steps[k].Wait=0 then -1 else tc s+(cnt s k:Int):=by
    unfold tmAt;rw [List.getElem?_eq_getElem hk]
   by_cases hw:s.Steps[k].Wait=0
   ·rw [cond_t (by simpa using hw)]
    simp only [Option.bind_some]
    rw [tms_succ,ht,if_pos hw,cnt_succ hk,if_pos hw,addI_nat (by omega)]
   ·rw [cond_f (by simpa using hw)]
    simp only [Option.bind_some]
    rw [tms_succ,ht,if_neg hw,cnt_succ hk,if_neg hw,addI_nat (by omega),addI_eq (by omega) (by omega)]
    rw [show tc s+(cnt s k:Int)+1=tc s+((cnt s k+1:Nat):Int) by omega]
 try dsimp only
 refine (bind_val (v:=(([[115,116,97,114,116]]:List (List UInt8)),s.Actuators,s.Steps,few s,s.Actuators,gl s,tms s (tc s) s.Steps.length,([]:List Int),lns s,([]:List Int),([]:List Int))) ?_).trans ?_
 ·try dsimp only
  by_cases h2:gnn s=2
  ·rw [few_gn,h2,cond_t (by rfl)]
   refine (bind_val (v:=((lst s 0:Int),([[115,116,97,114,116]]:List (List UInt8)),s.Actuators,s.Steps,few s,s.Actuators,gl s,tms s (tc s) s.Steps.length,([]:List Int),([]:List SSignal),([]:List Int),([]:List Int))) ?_).trans ?_
   ·try dsimp only
    have i1:idx (few s) 1=some ((div s).getD (0+1) 0:Int):=few_idx (j:=1) (by omega)
    rw [show decide ((1:Int) < ((2:Nat):Int))=true from rfl,cond_true,i1]
    have h4:(div s).getD (0+1) 0 < s.Steps.length∧1≤(div s).getD (0+1) 0:=f4 1 (by omega)
    simp only [Option.bind_some]
    rw [sub_nat (by omega) (by omega)]
    unfold lst
    rw [if_pos (show 0+1 < gnn s by omega)]
   try dsimp only
   refine (bind_val (v:=(endE s (tc s) (lst s 0),([[115,116,97,114,116]]:List (List UInt8)),s.Actuators,s.Steps,few s,s.Actuators,gl s,tms s (tc s) s.Steps.length,([]:List Int),([]:List SSignal),([]:List Int),([]:List Int))) ?_).trans ?_
   ·try dsimp only
    rw [tms_idx (hlt 0)]
    simp only [Option.bind_some,m171_line,SExpr.eta3]
    rw [tmAt_nonneg (hlt 0) htc,end_def s (tc s) (hlt 0)]
    by_cases hw:(s.Steps[lst s 0]'(hlt 0)).Wait=0
    ·rw [cond_f (by simp [hw]),if_pos hw,idx_lt (hlt 0)]
     simp only [Option.bind_some]
     rw [iter_fold (fun i:Nat=>((i:Int),([[115,116,97,114,116]]:List (List UInt8)),s.Actuators,s.Steps,few s,s.Actuators,gl s,tms s (tc s) s.Steps.length,([]:List Int),([]:List SSignal),([]:List Int),([]:List Int),sws (s.Steps[lst s 0]'(hlt 0)).Strokes i)) (s.Steps[lst s 0]'(hlt 0)).Strokes.length ?hn (([[115,116,97,114,116]]:List (List UInt8)),s.Actuators,s.Steps,few s,s.Actuators,gl s,tms s (tc s) s.Steps.length,([]:List Int),([]:List SSignal),([]:List Int),([]:List Int),(s.Steps[lst s 0]'(hlt 0)).Strokes.map swE) ?h0 ?h ?he]
     case hn=>have:=(h.step _ (hlt 0)).ok.le;unfold fuel;omega
     case h0=>rfl
     case he=>
      try dsimp only
      rw [cond_f (lt_f (by omega)),sws_all]
     case h=>
      intro i hi
      try dsimp only
      obtain ⟨h1,h2⟩:=(h.step _ (hlt 0)).ok.act i hi
      have hle:=(h.step _ (hlt 0)).ok.le
      have hl:(sws (s.Steps[lst s 0]'(hlt 0)).Strokes i).length=i:=by simp [sws];omega
      have e0:mulI .i64 2 (s.Steps[lst s 0]'(hlt 0)).Strokes[i].Actuator=2*(s.Steps[lst s 0]'(hlt 0)).Strokes[i].Actuator:=by unfold mulI;exact wrap_i64 (by omega) (by omega)
      rw [cond_t (lt_t (by omega)),idx_lt hi]
      simp only [Option.bind_some,e0]
      rw [sws_succ hi,addI_nat (by omega)]
      cases hx:(s.Steps[lst s 0]'(hlt 0)).Strokes[i].Out with
      | true=>
       simp only [cond_true,Option.bind_some,m171_line,SExpr.eta3]
       rw [addI_eq (by omega) (by omega),appc_eq (by simp [hl];omega) (by simp [hl];omega)]
       simp [swE,hx,lineE]
      | false=>
       simp only [cond_false,Option.bind_some,m171_line,SExpr.eta3]
       rw [appc_eq (by simp [hl];omega) (by simp [hl];omega)]
       simp [swE,hx,lineE]
     rfl
    ·rw [cond_t (by simpa using hw),if_neg hw]
   try dsimp only
   refine (bind_val (v:=(sev 3 (endE s (tc s) (lst s 0)),([[115,116,97,114,116]]:List (List UInt8)),s.Actuators,s.Steps,few s,s.Actuators,gl s,tms s (tc s) s.Steps.length,([]:List Int),([]:List SSignal),([]:List Int),([]:List Int),(sev 3 (endE s (tc s) (lst s 0))).Op,(sev 3 (endE s (tc s) (lst s 0))).Index,(sev 3 (endE s (tc s) (lst s 0))).Args)) ?_).trans ?_
   ·try dsimp only
    by_cases h1:(endE s (tc s) (lst s 0)).length=1
    ·obtain ⟨x,hx⟩:=List.length_eq_one_iff.1 h1
     rw [hx,cond_t (by rfl),show idx [x] 0=some x from rfl,sev_one]
     simp only [Option.bind_some,SExpr.eta3]
    ·rw [cond_f (by rw [beq_eq_false_iff_ne];omega),sev_ne h1]
   try dsimp only
   refine (bind_val (v:=((lst s 1:Int),([[115,116,97,114,116]]:List (List UInt8)),s.Actuators,s.Steps,few s,s.Actuators,gl s,tms s (tc s) s.Steps.length,([]:List Int),([]:List SSignal),([]:List Int),([]:List Int),(sev 3 (endE s (tc s) (lst s 0))).Op,(sev 3 (endE s (tc s) (lst s 0))).Index,(sev 3 (endE s (tc s) (lst s 0))).Args)) ?_).trans ?_
   ·try dsimp only
    rw [few_gn,h2,show decide ((2:Int) < ((2:Nat):Int))=false from rfl,cond_false,sub_nat (by omega) (by omega)]
    unfold lst
    rw [if_neg (show ¬ 1+1 < gnn s by omega)]
   try dsimp only
   refine (bind_val (v:=(endE s (tc s) (lst s 1),([[115,116,97,114,116]]:List (List UInt8)),s.Actuators,s.Steps,few s,s.Actuators,gl s,tms s (tc s) s.Steps.length,([]:List Int),([]:List SSignal),([]:List Int),([]:List Int),(sev 3 (endE s (tc s) (lst s 0))).Op,(sev 3 (endE s (tc s) (lst s 0))).Index,(sev 3 (endE s (tc s) (lst s 0))).Args)) ?_).trans ?_
   ·try dsimp only
    rw [tms_idx (hlt 1)]
    simp only [Option.bind_some,m171_line,SExpr.eta3]
    rw [tmAt_nonneg (hlt 1) htc,end_def s (tc s) (hlt 1)]
    by_cases hw:(s.Steps[lst s 1]'(hlt 1)).Wait=0
    ·rw [cond_f (by simp [hw]),if_pos hw,idx_lt (hlt 1)]
     simp only [Option.bind_some]
     rw [iter_fold (fun i:Nat=>((i:Int),([[115,116,97,114,116]]:List (List UInt8)),s.Actuators,s.Steps,few s,s.Actuators,gl s,tms s (tc s) s.Steps.length,([]:List Int),([]:List SSignal),([]:List Int),([]:List Int),(sev 3 (endE s (tc s) (lst s 0))).Op,(sev 3 (endE s (tc s) (lst s 0))).Index,(sev 3 (endE s (tc s) (lst s 0))).Args,sws (s.Steps[lst s 1]'(hlt 1)).Strokes i)) (s.Steps[lst s 1]'(hlt 1)).Strokes.length ?hn (([[115,116,97,114,116]]:List (List UInt8)),s.Actuators,s.Steps,few s,s.Actuators,gl s,tms s (tc s) s.Steps.length,([]:List Int),([]:List SSignal),([]:List Int),([]:List Int),(sev 3 (endE s (tc s) (lst s 0))).Op,(sev 3 (endE s (tc s) (lst s 0))).Index,(sev 3 (endE s (tc s) (lst s 0))).Args,(s.Steps[lst s 1]'(hlt 1)).Strokes.map swE) ?h0 ?h ?he]
     case hn=>have:=(h.step _ (hlt 1)).ok.le;unfold fuel;omega
     case h0=>rfl
     case he=>
      try dsimp only
      rw [cond_f (lt_f (by omega)),sws_all]
     case h=>
      intro i hi
      try dsimp only
      obtain ⟨h1,h2⟩:=(h.step _ (hlt 1)).ok.act i hi
      have hle:=(h.step _ (hlt 1)).ok.le
      have hl:(sws (s.Steps[lst s 1]'(hlt 1)).Strokes i).length=i:=by simp [sws];omega
      have e0:mulI .i64 2 (s.Steps[lst s 1]'(hlt 1)).Strokes[i].Actuator=2*(s.Steps[lst s 1]'(hlt 1)).Strokes[i].Actuator:=by unfold mulI;exact wrap_i64 (by omega) (by omega)
      rw [cond_t (lt_t (by omega)),idx_lt hi]
      simp only [Option.bind_some,e0]
      rw [sws_succ hi,addI_nat (by omega)]
      cases hx:(s.Steps[lst s 1]'(hlt 1)).Strokes[i].Out with
      | true=>
       simp only [cond_true,Option.bind_some,m171_line,SExpr.eta3]
       rw [addI_eq (by omega) (by omega),appc_eq (by simp [hl];omega) (by simp [hl];omega)]
       simp [swE,hx,lineE]
      | false=>
       simp only [cond_false,Option.bind_some,m171_line,SExpr.eta3]
       rw [appc_eq (by simp [hl];omega) (by simp [hl];omega)]
       simp [swE,hx,lineE]
     rfl
    ·rw [cond_t (by simpa using hw),if_neg hw]
   try dsimp only
   refine (bind_val (v:=(sev 3 (endE s (tc s) (lst s 1)),([[115,116,97,114,116]]:List (List UInt8)),s.Actuators,s.Steps,few s,s.Actuators,gl s,tms s (tc s) s.Steps.length,([]:List Int),([]:List SSignal),([]:List Int),([]:List Int),(sev 3 (endE s (tc s) (lst s 0))).Op,(sev 3 (endE s (tc s) (lst s 0))).Index,(sev 3 (endE s (tc s) (lst s 0))).Args,(sev 3 (endE s (tc s) (lst s 1))).Op,(sev 3 (endE s (tc s) (lst s 1))).Index,(sev 3 (endE s (tc s) (lst s 1))).Args)) ?_).trans ?_
   ·try dsimp only
    by_cases h1:(endE s (tc s) (lst s 1)).length=1
    ·obtain ⟨x,hx⟩:=List.length_eq_one_iff.1 h1
     rw [hx,cond_t (by rfl),show idx [x] 0=some x from rfl,sev_one]
     simp only [Option.bind_some,SExpr.eta3]
    ·rw [cond_f (by rw [beq_eq_false_iff_ne];omega),sev_ne h1]
   try dsimp only
   refine (bind_val (appc_eq (by simp) (by simp))).trans ?_
   try dsimp only
   have e3:lns s=two s:=by unfold lns;rw [if_pos h2]
   simp only [m171_line,Option.bind_some,SExpr.eta3,List.nil_append,List.length_singleton]
   rw [eact,addI_eq (by omega) (by omega),e3]
   refine (bind_val (appc_eq (by simp) (by simp))).trans ?_
   rfl
  ·rw [few_gn,cond_f (by simp;omega)]
   have hp:gl s=mods (fst s) (gnn s):=by unfold gl;rw [if_neg h2]
   have mi:∀ j,j < gnn s→idx (gl s) (j:Int)=some (fst s+(j:Int)):=by
    intro j hj
    rw [hp,idx_lt (show j < (mods (fst s) (gnn s)).length by simp [mods];exact hj)];simp [mods]
   refine (bind_val (v:=(([[115,116,97,114,116]]:List (List UInt8)),s.Actuators,s.Steps,few s,s.Actuators,gl s,tms s (tc s) s.Steps.length,([]:List Int),lns s,([]:List Int),([]:List Int))) ?_).trans ?_
   ·rw [iter_fold (fun k:Nat=>((k:Int),([[115,116,97,114,116]]:List (List UInt8)),s.Actuators,s.Steps,few s,s.Actuators,gl s,tms s (tc s) s.Steps.length,([]:List Int),grSigs s k,([]:List Int),([]:List Int))) (gnn s) ?hn (([[115,116,97,114,116]]:List (List UInt8)),s.Actuators,s.Steps,few s,s.Actuators,gl s,tms s (tc s) s.Steps.length,([]:List Int),lns s,([]:List Int),([]:List Int)) ?h0 ?h ?he]
    case hn=>unfold fuel;omega
    case h0=>simp [grSigs]
    case he=>
     try dsimp only
     rw [cond_f (lt_f (by omega))]
     unfold lns
     rw [if_neg h2]
    case h=>
     intro k hk
     try dsimp only
     have hpv:(k+gnn s - 1) % gnn s < gnn s:=Nat.mod_lt _ f1
     have hnx:(k+1) % gnn s < gnn s:=Nat.mod_lt _ f1
     obtain ⟨v,hv,hv2⟩:=num_of (p:=[103]) (.inl rfl) (show k < 100 by omega)
     have hml:(grSigs s k).length=k:=by simp [grSigs]
     rw [cond_t (lt_t (by omega)),prev_eq hk (by omega)]
     have i1:=mi _ hpv
     have i2:=mi _ hnx
     simp only [Option.bind_some,hv,hv2,i1,if_true]
     refine (bind_val (v:=(((((k+gnn s - 1) % gnn s):Nat):Int),(lst s ((k+gnn s - 1) % gnn s):Int),([[115,116,97,114,116]]:List (List UInt8)),s.Actuators,s.Steps,few s,s.Actuators,gl s,tms s (tc s) s.Steps.length,([]:List Int),grSigs s k,([]:List Int),([]:List Int))) ?_).trans ?_
     ·try dsimp only
      rw [few_gn,addI_nat (by omega)]
      by_cases hc1:((k+gnn s - 1) % gnn s)+1 < gnn s
      ·rw [cond_t (lt_t (by omega)),few_idx hc1]
       have h4:=f4 _ hc1
       simp only [Option.bind_some]
       rw [sub_nat (by omega) (by omega)]
       unfold lst
       rw [if_pos hc1]
      ·rw [cond_f (lt_f (by omega)),sub_nat (by omega) (by omega)]
       unfold lst
       rw [if_neg hc1]
     simp only [Option.bind_some,i1,if_true]
     refine (bind_val (v:=(((((k+gnn s - 1) % gnn s):Nat):Int),endE s (tc s) (lst s ((k+gnn s - 1) % gnn s)),([[115,116,97,114,116]]:List (List UInt8)),s.Actuators,s.Steps,few s,s.Actuators,gl s,tms s (tc s) s.Steps.length,([]:List Int),grSigs s k,([]:List Int),([]:List Int))) ?_).trans ?_
     ·try dsimp only
      rw [tms_idx (hlt ((k+gnn s - 1) % gnn s))]
      simp only [Option.bind_some,m171_line,SExpr.eta3]
      rw [tmAt_nonneg (hlt ((k+gnn s - 1) % gnn s)) htc,end_def s (tc s) (hlt ((k+gnn s - 1) % gnn s))]
      by_cases hw:(s.Steps[lst s ((k+gnn s - 1) % gnn s)]'(hlt ((k+gnn s - 1) % gnn s))).Wait=0
      ·rw [cond_f (by simp [hw]),if_pos hw,idx_lt (hlt ((k+gnn s - 1) % gnn s))]
       simp only [Option.bind_some]
       rw [iter_fold (fun i:Nat=>((i:Int),([[115,116,97,114,116]]:List (List UInt8)),s.Actuators,s.Steps,few s,s.Actuators,gl s,tms s (tc s) s.Steps.length,([]:List Int),grSigs s k,([]:List Int),([]:List Int),sws (s.Steps[lst s ((k+gnn s - 1) % gnn s)]'(hlt ((k+gnn s - 1) % gnn s))).Strokes i)) (s.Steps[lst s ((k+gnn s - 1) % gnn s)]'(hlt ((k+gnn s - 1) % gnn s))).Strokes.length ?hn (([[115,116,97,114,116]]:List (List UInt8)),s.Actuators,s.Steps,few s,s.Actuators,gl s,tms s (tc s) s.Steps.length,([]:List Int),grSigs s k,([]:List Int),([]:List Int),(s.Steps[lst s ((k+gnn s - 1) % gnn s)]'(hlt ((k+gnn s - 1) % gnn s))).Strokes.map swE) ?h0 ?h ?he]
       case hn=>have:=(h.step _ (hlt ((k+gnn s - 1) % gnn s))).ok.le;unfold fuel;omega
       case h0=>rfl
       case he=>
        try dsimp only
        rw [cond_f (lt_f (by omega)),sws_all]
       case h=>
        intro i hi
        try dsimp only
        obtain ⟨h1,h2⟩:=(h.step _ (hlt ((k+gnn s - 1) % gnn s))).ok.act i hi
        have hle:=(h.step _ (hlt ((k+gnn s - 1) % gnn s))).ok.le
        have hl:(sws (s.Steps[lst s ((k+gnn s - 1) % gnn s)]'(hlt ((k+gnn s - 1) % gnn s))).Strokes i).length=i:=by simp [sws];omega
        have e0:mulI .i64 2 (s.Steps[lst s ((k+gnn s - 1) % gnn s)]'(hlt ((k+gnn s - 1) % gnn s))).Strokes[i].Actuator=2*(s.Steps[lst s ((k+gnn s - 1) % gnn s)]'(hlt ((k+gnn s - 1) % gnn s))).Strokes[i].Actuator:=by unfold mulI;exact wrap_i64 (by omega) (by omega)
        rw [cond_t (lt_t (by omega)),idx_lt hi]
        simp only [Option.bind_some,e0]
        rw [sws_succ hi,addI_nat (by omega)]
        cases hx:(s.Steps[lst s ((k+gnn s - 1) % gnn s)]'(hlt ((k+gnn s - 1) % gnn s))).Strokes[i].Out with
        | true=>
         simp only [cond_true,Option.bind_some,m171_line,SExpr.eta3]
         rw [addI_eq (by omega) (by omega),appc_eq (by simp [hl];omega) (by simp [hl];omega)]
         simp [swE,hx,lineE]
        | false=>
         simp only [cond_false,Option.bind_some,m171_line,SExpr.eta3]
         rw [appc_eq (by simp [hl];omega) (by simp [hl];omega)]
         simp [swE,hx,lineE]
       rfl
      ·rw [cond_t (by simpa using hw),if_neg hw]
     simp only [Option.bind_some,i1,if_true,m171_line,SExpr.eta3]
     have hel:=end_lenR h (tc s) (lst s ((k+gnn s - 1) % gnn s))
     rw [appc_eq (by simp;omega) (by simp;omega)]
     simp only [Option.bind_some,List.singleton_append]
     refine (bind_val (v:=(sev 3 (lineE (fst s+(((k+gnn s - 1) % gnn s):Nat))::endE s (tc s) (lst s ((k+gnn s - 1) % gnn s))),([[115,116,97,114,116]]:List (List UInt8)),s.Actuators,s.Steps,few s,s.Actuators,gl s,tms s (tc s) s.Steps.length,([]:List Int),grSigs s k,([]:List Int),([]:List Int),(0:Int),(0:Int),([]:List SExpr),(sev 3 (lineE (fst s+(((k+gnn s - 1) % gnn s):Nat))::endE s (tc s) (lst s ((k+gnn s - 1) % gnn s)))).Op,(sev 3 (lineE (fst s+(((k+gnn s - 1) % gnn s):Nat))::endE s (tc s) (lst s ((k+gnn s - 1) % gnn s)))).Index,(sev 3 (lineE (fst s+(((k+gnn s - 1) % gnn s):Nat))::endE s (tc s) (lst s ((k+gnn s - 1) % gnn s)))).Args)) ?_).trans ?_
     ·try dsimp only
      by_cases h1:(lineE (fst s+(((k+gnn s - 1) % gnn s):Nat))::endE s (tc s) (lst s ((k+gnn s - 1) % gnn s))).length=1
      ·obtain ⟨x,hx⟩:=List.length_eq_one_iff.1 h1
       rw [hx,cond_t (by rfl),show idx [x] 0=some x from rfl,sev_one]
       simp only [Option.bind_some,SExpr.eta3]
      ·rw [cond_f (by rw [beq_eq_false_iff_ne];omega),sev_ne h1]
     rw [next_eq hk (by omega)]
     simp only [Option.bind_some,i2,if_true,m171_line,SExpr.eta3]
     rw [appc_eq (by simp [hml];omega) (by simp [hml];omega),addI_nat (by omega),grSigs_succ]
     rfl
   rfl
 try dsimp only
 refine (bind_val (v:=(([[115,116,97,114,116]]:List (List UInt8)),s.Actuators,s.Steps,few s,s.Actuators,gl s,tms s (tc s) s.Steps.length,([]:List Int),bas1 s,([]:List Int),([]:List Int))) ?_).trans ?_
 ·try dsimp only
  rw [iter_fold (fun k:Nat=>((k:Int),([[115,116,97,114,116]]:List (List UInt8)),s.Actuators,s.Steps,few s,s.Actuators,gl s,tms s (tc s) s.Steps.length,([]:List Int),lns s++clks s (bel s s.Steps.length) k,([]:List Int),([]:List Int))) s.Steps.length ?hn (([[115,116,97,114,116]]:List (List UInt8)),s.Actuators,s.Steps,few s,s.Actuators,gl s,tms s (tc s) s.Steps.length,([]:List Int),bas1 s,([]:List Int),([]:List Int)) ?h0 ?h ?he]
  case hn=>unfold fuel;omega
  case h0=>simp [clks]
  case he=>
   try dsimp only
   rw [cond_f (lt_f (by omega))];rfl
  case h=>
   intro k hk
   try dsimp only
   have hcl:=clks_len s (bel s s.Steps.length) k
   have hll:=lns_len (s:=s)
   have ho:=hst k hk
   have hwt:=ho.wait
   have hg:=grp_lt h k
   have hgi:idx (gl s) (grp s k:Int)=some (glk s k):=gl_idx hg
   have e:clkOf s (bel s s.Steps.length) k=if s.Steps[k].Wait=0 then [] else [⟨nameOf [119] k,2,⟨3,0,lineE (glk s k)::s.Steps[k].Strokes.map swE⟩,noE,s.Steps[k].Wait,false⟩]:=by
    unfold clkOf
    rw [List.getElem?_eq_getElem hk,List.getElem?_eq_getElem (show k < (bel s s.Steps.length).length by rw [bel_len];exact hk)]
    simp [bel,glk]
   rw [cond_t (lt_t (by omega)),idx_lt hk]
   simp only [Option.bind_some]
   refine (bind_val (v:=(([[115,116,97,114,116]]:List (List UInt8)),s.Actuators,s.Steps,few s,s.Actuators,gl s,tms s (tc s) s.Steps.length,([]:List Int),lns s++clks s (bel s s.Steps.length) (k+1),([]:List Int),([]:List Int))) ?_).trans ?_
   ·rw [clks_succ,e]
    by_cases hw:s.Steps[k].Wait=0
    ·rw [cond_f (by simp;omega),if_pos hw,List.append_nil]
    ·rw [cond_t (by simp;omega),if_neg hw]
     obtain ⟨v,hv,hv2⟩:=num_of (p:=[119]) (.inr (.inr rfl)) (show k < 100 by omega)
     simp only [Option.bind_some,hv,hv2,if_true]
     refine (bind_val (v:=((grp s k:Int),([[115,116,97,114,116]]:List (List UInt8)),s.Actuators,s.Steps,few s,s.Actuators,gl s,tms s (tc s) s.Steps.length,([]:List Int),lns s++clks s (bel s s.Steps.length) k,([]:List Int),([]:List Int))) ?_).trans ?_
     ·rw [few_gn,sub_nat f1 (by omega)]
      rw [iter_fold (fun t:Nat=>(((gnn s - 1 - t:Nat):Int),([[115,116,97,114,116]]:List (List UInt8)),s.Actuators,s.Steps,few s,s.Actuators,gl s,tms s (tc s) s.Steps.length,([]:List Int),lns s++clks s (bel s s.Steps.length) k,([]:List Int),([]:List Int))) (gnn s - 1 - grp s k) ?hn ((grp s k:Int),([[115,116,97,114,116]]:List (List UInt8)),s.Actuators,s.Steps,few s,s.Actuators,gl s,tms s (tc s) s.Steps.length,([]:List Int),lns s++clks s (bel s s.Steps.length) k,([]:List Int),([]:List Int)) ?h0 ?h ?he]
      case hn=>unfold fuel;omega
      case h0=>rfl
      case he=>
       try dsimp only
       have hg:=grp_lt h k
       rw [show gnn s - 1 - (gnn s - 1 - grp s k)=grp s k by omega,few_idx hg]
       simp only [Option.bind_some]
       have:=grp_le h k
       rw [cond_f (by simp only [decide_eq_false_iff_not];omega)]
      case h=>
       intro t ht
       try dsimp only
       rw [few_idx (show gnn s - 1 - t < gnn s by omega)]
       simp only [Option.bind_some]
       have:=top_above (o:=div s) (k:=k) (m:=gnn s) (j:=gnn s - 1 - t) (by unfold grp at ht;omega) (by omega)
       rw [cond_t (by simp only [decide_eq_true_eq];omega),sub_nat (by omega) (by omega)]
       rfl
     simp only [Option.bind_some,hgi,if_true]
     rw [idx_lt hk]
     simp only [Option.bind_some]
     refine (bind_val (v:=(([[115,116,97,114,116]]:List (List UInt8)),s.Actuators,s.Steps,few s,s.Actuators,gl s,tms s (tc s) s.Steps.length,([]:List Int),lns s++clks s (bel s s.Steps.length) k,([]:List Int),([]:List Int),s.Steps[k].Strokes.map swE)) ?_).trans ?_
     ·rw [iter_fold (fun i:Nat=>((i:Int),([[115,116,97,114,116]]:List (List UInt8)),s.Actuators,s.Steps,few s,s.Actuators,gl s,tms s (tc s) s.Steps.length,([]:List Int),lns s++clks s (bel s s.Steps.length) k,([]:List Int),([]:List Int),sws (s.Steps[k]'hk).Strokes i)) (s.Steps[k]'hk).Strokes.length ?hn (([[115,116,97,114,116]]:List (List UInt8)),s.Actuators,s.Steps,few s,s.Actuators,gl s,tms s (tc s) s.Steps.length,([]:List Int),lns s++clks s (bel s s.Steps.length) k,([]:List Int),([]:List Int),(s.Steps[k]'hk).Strokes.map swE) ?h0 ?h ?he]
      case hn=>have:=(h.step _ hk).ok.le;unfold fuel;omega
      case h0=>rfl
      case he=>
       try dsimp only
       rw [cond_f (lt_f (by omega)),sws_all]
      case h=>
       intro i hi
       try dsimp only
       obtain ⟨h1,h2⟩:=(h.step _ hk).ok.act i hi
       have hle:=(h.step _ hk).ok.le
       have hl:(sws (s.Steps[k]'hk).Strokes i).length=i:=by simp [sws];omega
       have e0:mulI .i64 2 (s.Steps[k]'hk).Strokes[i].Actuator=2*(s.Steps[k]'hk).Strokes[i].Actuator:=by unfold mulI;exact wrap_i64 (by omega) (by omega)
       rw [cond_t (lt_t (by omega)),idx_lt hi]
       simp only [Option.bind_some,e0]
       rw [sws_succ hi,addI_nat (by omega)]
       cases hx:(s.Steps[k]'hk).Strokes[i].Out with
       | true=>
        simp only [cond_true,Option.bind_some,m171_line,SExpr.eta3]
        rw [addI_eq (by omega) (by omega),appc_eq (by simp [hl];omega) (by simp [hl];omega)]
        simp [swE,hx,lineE]
       | false=>
        simp only [cond_false,Option.bind_some,m171_line,SExpr.eta3]
        rw [appc_eq (by simp [hl];omega) (by simp [hl];omega)]
        simp [swE,hx,lineE]
     simp only [Option.bind_some,hgi,if_true,m171_line,SExpr.eta3]
     have hle:=ho.le
     rw [appc_eq (by simp;omega) (by simp;omega)]
     simp only [Option.bind_some,List.singleton_append]
     obtain ⟨y,l,hyl⟩:∃ y l,s.Steps[k].Strokes.map swE=y::l:=by
      cases hq:s.Steps[k].Strokes with
      | nil=>have:=ho.pos;rw [hq] at this;simp at this
      | cons a l=>exact ⟨_,_,rfl⟩
     rw [hyl,cond_f (by simp;omega)]
     simp only [Option.bind_some,if_true,SExpr.eta3]
     rw [appc_eq (by simp;omega) (by simp;omega)]
     simp only [Option.bind_some,if_true]
     rw [List.append_assoc]
     rfl
   try dsimp only
   rw [addI_nat (by omega)]
 try dsimp only
 refine (bind_val (v:=(([[115,116,97,114,116]]:List (List UInt8)),s.Actuators,s.Steps,few s,s.Actuators,gl s,tms s (tc s) s.Steps.length,sts s s.Steps.length,bas s,([]:List Int),([]:List Int))) ?_).trans ?_
 ·try dsimp only
  rw [iter_fold (fun k:Nat=>((k:Int),([[115,116,97,114,116]]:List (List UInt8)),s.Actuators,s.Steps,few s,s.Actuators,gl s,tms s (tc s) s.Steps.length,sts s k,bas1 s++stSigs s k,([]:List Int),([]:List Int))) s.Steps.length ?hn (([[115,116,97,114,116]]:List (List UInt8)),s.Actuators,s.Steps,few s,s.Actuators,gl s,tms s (tc s) s.Steps.length,sts s s.Steps.length,bas s,([]:List Int),([]:List Int)) ?h0 ?h ?he]
  case hn=>unfold fuel;omega
  case h0=>simp [stSigs,sts]
  case he=>
   try dsimp only
   rw [cond_f (lt_f (by omega))];rfl
  case h=>
   intro k hk
   try dsimp only
   have hsl:=stSigs_len (s:=s) (k:=k)
   have hb1:=bas1_len (s:=s)
   have hsn:=sts_len (s:=s) (k:=k)
   have hg:=grp_lt h k
   have hgi:idx (gl s) (grp s k:Int)=some (glk s k):=gl_idx hg
   have hle:=grp_le h k
   rw [cond_t (lt_t (by omega))]
   refine (bind_val (v:=((grp s k:Int),([[115,116,97,114,116]]:List (List UInt8)),s.Actuators,s.Steps,few s,s.Actuators,gl s,tms s (tc s) s.Steps.length,sts s k,bas1 s++stSigs s k,([]:List Int),([]:List Int))) ?_).trans ?_
   ·rw [few_gn,sub_nat f1 (by omega)]
    rw [iter_fold (fun t:Nat=>(((gnn s - 1 - t:Nat):Int),([[115,116,97,114,116]]:List (List UInt8)),s.Actuators,s.Steps,few s,s.Actuators,gl s,tms s (tc s) s.Steps.length,sts s k,bas1 s++stSigs s k,([]:List Int),([]:List Int))) (gnn s - 1 - grp s k) ?hn ((grp s k:Int),([[115,116,97,114,116]]:List (List UInt8)),s.Actuators,s.Steps,few s,s.Actuators,gl s,tms s (tc s) s.Steps.length,sts s k,bas1 s++stSigs s k,([]:List Int),([]:List Int)) ?h0 ?h ?he]
    case hn=>unfold fuel;omega
    case h0=>rfl
    case he=>
     try dsimp only
     have hg:=grp_lt h k
     rw [show gnn s - 1 - (gnn s - 1 - grp s k)=grp s k by omega,few_idx hg]
     simp only [Option.bind_some]
     have:=grp_le h k
     rw [cond_f (by simp only [decide_eq_false_iff_not];omega)]
    case h=>
     intro t ht
     try dsimp only
     rw [few_idx (show gnn s - 1 - t < gnn s by omega)]
     simp only [Option.bind_some]
     have:=top_above (o:=div s) (k:=k) (m:=gnn s) (j:=gnn s - 1 - t) (by unfold grp at ht;omega) (by omega)
     rw [cond_t (by simp only [decide_eq_true_eq];omega),sub_nat (by omega) (by omega)]
     rfl
   try dsimp only
   refine (bind_val (v:=(more s k,([[115,116,97,114,116]]:List (List UInt8)),s.Actuators,s.Steps,few s,s.Actuators,gl s,tms s (tc s) s.Steps.length,sts s k,bas1 s++stSigs s k,([]:List Int),([]:List Int))) ?_).trans ?_
   ·by_cases h0:k=0
    ·rw [cond_t (by simp [h0]),eact]
     unfold more
     rw [if_pos h0];rfl
    ·rw [cond_f (by simp;omega),few_idx hg]
     simp only [Option.bind_some]
     refine (bind_val (v:=(more s k,([[115,116,97,114,116]]:List (List UInt8)),s.Actuators,s.Steps,few s,s.Actuators,gl s,tms s (tc s) s.Steps.length,sts s k,bas1 s++stSigs s k,([]:List Int),([]:List Int))) ?_).trans rfl
     by_cases hc2:(div s).getD (grp s k) 0 < k
     ·have em:more s k=endE s (tc s) (k - 1):=by unfold more;rw [if_neg h0,if_pos hc2]
      have hk1:k - 1 < s.Steps.length:=by omega
      rw [cond_t (lt_t (by omega)),em,sub_nat (by omega) (by omega)]
      refine (bind_val (v:=(endE s (tc s) (k - 1),([[115,116,97,114,116]]:List (List UInt8)),s.Actuators,s.Steps,few s,s.Actuators,gl s,tms s (tc s) s.Steps.length,sts s k,bas1 s++stSigs s k,([]:List Int),([]:List Int))) ?_).trans rfl
      rw [tms_idx hk1]
      simp only [Option.bind_some,m171_line,SExpr.eta3]
      rw [tmAt_nonneg hk1 htc,end_def s (tc s) hk1]
      by_cases hw:(s.Steps[k - 1]'hk1).Wait=0
      ·rw [cond_f (by simp [hw]),if_pos hw,idx_lt hk1]
       simp only [Option.bind_some]
       rw [iter_fold (fun i:Nat=>((i:Int),([[115,116,97,114,116]]:List (List UInt8)),s.Actuators,s.Steps,few s,s.Actuators,gl s,tms s (tc s) s.Steps.length,sts s k,bas1 s++stSigs s k,([]:List Int),([]:List Int),sws (s.Steps[k - 1]'hk1).Strokes i)) (s.Steps[k - 1]'hk1).Strokes.length ?hn (([[115,116,97,114,116]]:List (List UInt8)),s.Actuators,s.Steps,few s,s.Actuators,gl s,tms s (tc s) s.Steps.length,sts s k,bas1 s++stSigs s k,([]:List Int),([]:List Int),(s.Steps[k - 1]'hk1).Strokes.map swE) ?h0 ?h ?he]
       case hn=>have:=(h.step _ hk1).ok.le;unfold fuel;omega
       case h0=>rfl
       case he=>
        try dsimp only
        rw [cond_f (lt_f (by omega)),sws_all]
       case h=>
        intro i hi
        try dsimp only
        obtain ⟨h1,h2⟩:=(h.step _ hk1).ok.act i hi
        have hle:=(h.step _ hk1).ok.le
        have hl:(sws (s.Steps[k - 1]'hk1).Strokes i).length=i:=by simp [sws];omega
        have e0:mulI .i64 2 (s.Steps[k - 1]'hk1).Strokes[i].Actuator=2*(s.Steps[k - 1]'hk1).Strokes[i].Actuator:=by unfold mulI;exact wrap_i64 (by omega) (by omega)
        rw [cond_t (lt_t (by omega)),idx_lt hi]
        simp only [Option.bind_some,e0]
        rw [sws_succ hi,addI_nat (by omega)]
        cases hx:(s.Steps[k - 1]'hk1).Strokes[i].Out with
        | true=>
         simp only [cond_true,Option.bind_some,m171_line,SExpr.eta3]
         rw [addI_eq (by omega) (by omega),appc_eq (by simp [hl];omega) (by simp [hl];omega)]
         simp [swE,hx,lineE]
        | false=>
         simp only [cond_false,Option.bind_some,m171_line,SExpr.eta3]
         rw [appc_eq (by simp [hl];omega) (by simp [hl];omega)]
         simp [swE,hx,lineE]
       rfl
      ·rw [cond_t (by simpa using hw),if_neg hw]
     ·have em:more s k=[]:=by unfold more;rw [if_neg h0,if_neg hc2]
      rw [cond_f (lt_f (by omega)),em]
   obtain ⟨v,hv,hv2⟩:=num_of (p:=[115]) (.inr (.inl rfl)) (show k < 100 by omega)
   simp only [Option.bind_some,hv,hv2,hgi,if_true,m171_line,SExpr.eta3]
   have hml:=more_len h k
   rw [appc_eq (by simp;omega) (by simp;omega)]
   simp only [Option.bind_some,List.singleton_append]
   refine (bind_val (v:=(sev 3 (lineE (glk s k)::more s k),([[115,116,97,114,116]]:List (List UInt8)),s.Actuators,s.Steps,few s,s.Actuators,gl s,tms s (tc s) s.Steps.length,sts s k,bas1 s++stSigs s k,([]:List Int),([]:List Int),(0:Int),(0:Int),([]:List SExpr),(sev 3 (lineE (glk s k)::more s k)).Op,(sev 3 (lineE (glk s k)::more s k)).Index,(sev 3 (lineE (glk s k)::more s k)).Args)) ?_).trans ?_
   ·show (bif ((((lineE (glk s k)::more s k).length:Nat):Int)==1) then _ else _)=_
    by_cases h1:(lineE (glk s k)::more s k).length=1
    ·obtain ⟨x,hx⟩:=List.length_eq_one_iff.1 h1
     rw [hx,cond_t (by rfl),show idx [x] 0=some x from rfl,sev_one]
     simp only [Option.bind_some,SExpr.eta3]
    ·rw [cond_f (by rw [beq_eq_false_iff_ne];omega),sev_ne h1]
   simp only [Option.bind_some,if_true,SExpr.eta3]
   rw [appc_eq (by rw [List.length_append];simp;omega) (by rw [List.length_append];simp;omega)]
   simp only [Option.bind_some,if_true]
   rw [appc_eq (by simp [hsn];omega) (by simp [hsn];omega),eact]
   simp only [Option.bind_some,if_true]
   have hlen:((bas1 s++stSigs s k++[stSig s k]).length:Int)=(gnn s:Int)+(tn s:Int)+(k:Int)+1:=by
    rw [List.length_append,List.length_append,hb1,hsl];simp
   have hlen2:addI .i64 (2*s.Actuators) ((bas1 s++stSigs s k++[stSig s k]).length:Int)=fst s+(gnn s:Int)+(tn s:Int)+(k:Int):=by
    rw [hlen,addI_eq (by omega) (by omega)];unfold fst;omega
   rw [addI_nat (by omega),sts_succ,stSigs_succ,←List.append_assoc,←hlen2]
   rfl
 try dsimp only
 refine (bind_val (v:=(([[115,116,97,114,116]]:List (List UInt8)),s.Actuators,s.Steps,few s,s.Actuators,gl s,tms s (tc s) s.Steps.length,sts s s.Steps.length,bas s++pils s (sts s s.Steps.length) s.Actuators.toNat,pm s 0 s.Actuators.toNat,pm s 1 s.Actuators.toNat)) ?_).trans ?_
 ·try dsimp only
  rw [iter_fold (fun k:Nat=>((k:Int),([[115,116,97,114,116]]:List (List UInt8)),s.Actuators,s.Steps,few s,s.Actuators,gl s,tms s (tc s) s.Steps.length,sts s s.Steps.length,bas s++pils s (sts s s.Steps.length) k,pm s 0 k,pm s 1 k)) s.Actuators.toNat ?hn (([[115,116,97,114,116]]:List (List UInt8)),s.Actuators,s.Steps,few s,s.Actuators,gl s,tms s (tc s) s.Steps.length,sts s s.Steps.length,bas s++pils s (sts s s.Steps.length) s.Actuators.toNat,pm s 0 s.Actuators.toNat,pm s 1 s.Actuators.toNat) ?h0 ?h ?he]
  case hn=>unfold fuel;omega
  case h0=>simp [pils,pm]
  case he=>
   try dsimp only
   rw [cond_f (lt_f (by omega))]
  case h=>
   intro a ha
   try dsimp only
   have hpl:=pils_len s (sts s s.Steps.length) a
   have hbl:=bas_len (s:=s)
   have hp0:=pm_len (s:=s) (d:=0) (k:=a)
   have hp1:=pm_len (s:=s) (d:=1) (k:=a)
   rw [cond_t (lt_t (by omega))]
   refine (bind_val (v:=(([[115,116,97,114,116]]:List (List UInt8)),s.Actuators,s.Steps,few s,s.Actuators,gl s,tms s (tc s) s.Steps.length,sts s s.Steps.length,bas s++pils s (sts s s.Steps.length) (a+1),pm s 0 (a+1),pm s 1 (a+1))) ?_).trans ?_
   ·rw [iter_fold (fun k:Nat=>((k:Int),([[115,116,97,114,116]]:List (List UInt8)),s.Actuators,s.Steps,few s,s.Actuators,gl s,tms s (tc s) s.Steps.length,sts s s.Steps.length,bas s++pils s (sts s s.Steps.length) a++(([true,false]:List Bool).take k).map (pilSig s (sts s s.Steps.length) a),if k=0 then pm s 0 a else pm s 0 (a+1),if k=2 then pm s 1 (a+1) else pm s 1 a)) 2 ?hn (([[115,116,97,114,116]]:List (List UInt8)),s.Actuators,s.Steps,few s,s.Actuators,gl s,tms s (tc s) s.Steps.length,sts s s.Steps.length,bas s++pils s (sts s s.Steps.length) (a+1),pm s 0 (a+1),pm s 1 (a+1)) ?h0 ?h ?he]
    case hn=>unfold fuel;omega
    case h0=>simp
    case he=>
     try dsimp only
     rw [cond_f (by rfl),pils_succ,List.append_assoc];rfl
    case h=>
     intro k hk
     try dsimp only
     have hk':k < ([true,false]:List Bool).length:=hk
     rw [cond_t (lt_t (by simp;omega)),idx_lt hk']
     simp only [Option.bind_some]
     have et:(([true,false]:List Bool).take (k+1)).map (pilSig s (sts s s.Steps.length) a)=(([true,false]:List Bool).take k).map (pilSig s (sts s s.Steps.length) a)++[pilSig s (sts s s.Steps.length) a (([true,false]:List Bool)[k])]:=by
      rw [List.take_add_one,List.getElem?_eq_getElem hk',List.map_append];rfl
     have hle:(bas s++pils s (sts s s.Steps.length) a++(([true,false]:List Bool).take k).map (pilSig s (sts s s.Steps.length) a)).length=(bas s).length+2*a+k:=by
      rw [List.length_append,List.length_append,hpl,List.length_map,List.length_take];simp;omega
     rw [et,←List.append_assoc]
     generalize bas s++pils s (sts s s.Steps.length) a++(([true,false]:List Bool).take k).map (pilSig s (sts s s.Steps.length) a)=acc at hle ⊢
     refine (bind_val (v:=(([[115,116,97,114,116]]:List (List UInt8)),s.Actuators,s.Steps,few s,s.Actuators,gl s,tms s (tc s) s.Steps.length,sts s s.Steps.length,acc,if k=0 then pm s 0 a else pm s 0 (a+1),if k=2 then pm s 1 (a+1) else pm s 1 a,pil s (sts s s.Steps.length) a (([true,false]:List Bool)[k]) s.Steps.length)) ?_).trans ?_
     ·generalize ([true,false]:List Bool)[k]=o
      rw [iter_fold (fun j:Nat=>((j:Int),([[115,116,97,114,116]]:List (List UInt8)),s.Actuators,s.Steps,few s,s.Actuators,gl s,tms s (tc s) s.Steps.length,sts s s.Steps.length,acc,if k=0 then pm s 0 a else pm s 0 (a+1),if k=2 then pm s 1 (a+1) else pm s 1 a,pil s (sts s s.Steps.length) a o j)) s.Steps.length ?hn (([[115,116,97,114,116]]:List (List UInt8)),s.Actuators,s.Steps,few s,s.Actuators,gl s,tms s (tc s) s.Steps.length,sts s s.Steps.length,acc,if k=0 then pm s 0 a else pm s 0 (a+1),if k=2 then pm s 1 (a+1) else pm s 1 a,pil s (sts s s.Steps.length) a o s.Steps.length) ?h0 ?h ?he]
      case hn=>unfold fuel;omega
      case h0=>rfl
      case he=>
       try dsimp only
       rw [cond_f (lt_f (by omega))]
      case h=>
       intro j hj
       try dsimp only
       have hl:=pil_len s (sts s s.Steps.length) a o j
       have hsl:=sts_len (s:=s) (k:=s.Steps.length)
       rw [cond_t (lt_t (by omega)),idx_lt hj]
       simp only [Option.bind_some]
       rw [hit_any _ _ _ (hst j hj).le,pil_succ hj (by omega),addI_nat (by omega)]
       simp only [Option.bind_some]
       cases s.Steps[j].Strokes.any (hit a o) with
       | true=>
        simp only [cond_true]
        rw [idx_lt (show j < (sts s s.Steps.length).length by omega)]
        simp only [Option.bind_some,m171_line,SExpr.eta3]
        rw [appc_eq (by simp;omega) (by simp;omega)]
        rfl
       | false=>simp
     try dsimp only
     rw [addI_nat (show a < _ by omega),letters (show a < 6 by omega)]
     simp only [Option.bind_some]
     have hk2:k=0∨k=1:=by omega
     rcases hk2 with rfl | rfl
     ·have hel:=pil_len s (sts s s.Steps.length) a true s.Steps.length
      simp only [List.getElem_cons_zero,List.getElem_cons_succ,show ((0:Nat)=2)=False from eq_false (by decide),show ((1:Nat)=0)=False from eq_false (by decide),show ((1:Nat)=2)=False from eq_false (by decide),show ((0+1:Nat)=0)=False from eq_false (by decide),show ((0+1:Nat)=2)=False from eq_false (by decide),show ((1+1:Nat)=0)=False from eq_false (by decide),show ((1+1:Nat)=2)=True from eq_true (by decide),if_true,if_false]
      show ((bif true then _ else _:Option _).bind _)=_
      rw [cond_true,catc_one]
      simp only [Option.bind_some]
      refine (bind_val (v:=(([[115,116,97,114,116]]:List (List UInt8)),s.Actuators,s.Steps,few s,s.Actuators,gl s,tms s (tc s) s.Steps.length,sts s s.Steps.length,acc++[pilSig s (sts s s.Steps.length) a true],pm s 0 (a+1),pm s 1 a)) ?_).trans ?_
      ·refine (bind_val (v:=(sev 4 (pil s (sts s s.Steps.length) a true s.Steps.length),([[115,116,97,114,116]]:List (List UInt8)),s.Actuators,s.Steps,few s,s.Actuators,gl s,tms s (tc s) s.Steps.length,sts s s.Steps.length,acc,pm s 0 a,pm s 1 a,(sev 4 (pil s (sts s s.Steps.length) a true s.Steps.length)).Op,(sev 4 (pil s (sts s s.Steps.length) a true s.Steps.length)).Index,(sev 4 (pil s (sts s s.Steps.length) a true s.Steps.length)).Args)) ?_).trans ?_
       ·show (bif (((pil s (sts s s.Steps.length) a true s.Steps.length).length:Int)==1) then _ else _)=_
        by_cases h1:(pil s (sts s s.Steps.length) a true s.Steps.length).length=1
        ·obtain ⟨x,hx⟩:=List.length_eq_one_iff.1 h1
         rw [hx,cond_t (by rfl),show idx [x] 0=some x from rfl,sev_one]
         simp only [Option.bind_some,SExpr.eta3]
        ·rw [cond_f (by rw [beq_eq_false_iff_ne];omega),sev_ne h1]
       simp only [Option.bind_some,if_true,SExpr.eta3]
       rw [appc_eq (by simp;omega) (by simp;omega)]
       simp only [Option.bind_some,if_true]
       rw [appc_eq (by simp [hp0];omega) (by simp [hp0];omega),eact]
       simp only [Option.bind_some,if_true]
       have hlen:addI .i64 (2*s.Actuators) ((acc++[pilSig s (sts s s.Steps.length) a true]).length:Int)=fst s+((bas s).length:Int)+2*(a:Int)+0:=by
        rw [List.length_append,hle,addI_eq (by simp;omega) (by simp;omega)];unfold fst;simp;omega
       rw [pm_succ (d:=0),←hlen]
       rfl
      ·rfl
     ·have hel:=pil_len s (sts s s.Steps.length) a false s.Steps.length
      simp only [List.getElem_cons_zero,List.getElem_cons_succ,show ((0:Nat)=2)=False from eq_false (by decide),show ((1:Nat)=0)=False from eq_false (by decide),show ((1:Nat)=2)=False from eq_false (by decide),show ((0+1:Nat)=0)=False from eq_false (by decide),show ((0+1:Nat)=2)=False from eq_false (by decide),show ((1+1:Nat)=0)=False from eq_false (by decide),show ((1+1:Nat)=2)=True from eq_true (by decide),if_true,if_false]
      show ((bif false then _ else _:Option _).bind _)=_
      rw [cond_false,catc_one]
      simp only [Option.bind_some]
      refine (bind_val (v:=(([[115,116,97,114,116]]:List (List UInt8)),s.Actuators,s.Steps,few s,s.Actuators,gl s,tms s (tc s) s.Steps.length,sts s s.Steps.length,acc++[pilSig s (sts s s.Steps.length) a false],pm s 0 (a+1),pm s 1 (a+1))) ?_).trans ?_
      ·refine (bind_val (v:=(sev 4 (pil s (sts s s.Steps.length) a false s.Steps.length),([[115,116,97,114,116]]:List (List UInt8)),s.Actuators,s.Steps,few s,s.Actuators,gl s,tms s (tc s) s.Steps.length,sts s s.Steps.length,acc,pm s 0 (a+1),pm s 1 a,(sev 4 (pil s (sts s s.Steps.length) a false s.Steps.length)).Op,(sev 4 (pil s (sts s s.Steps.length) a false s.Steps.length)).Index,(sev 4 (pil s (sts s s.Steps.length) a false s.Steps.length)).Args)) ?_).trans ?_
       ·show (bif (((pil s (sts s s.Steps.length) a false s.Steps.length).length:Int)==1) then _ else _)=_
        by_cases h1:(pil s (sts s s.Steps.length) a false s.Steps.length).length=1
        ·obtain ⟨x,hx⟩:=List.length_eq_one_iff.1 h1
         rw [hx,cond_t (by rfl),show idx [x] 0=some x from rfl,sev_one]
         simp only [Option.bind_some,SExpr.eta3]
        ·rw [cond_f (by rw [beq_eq_false_iff_ne];omega),sev_ne h1]
       simp only [Option.bind_some,if_true,SExpr.eta3]
       rw [appc_eq (by simp;omega) (by simp;omega)]
       simp only [Option.bind_some,if_true]
       rw [appc_eq (by simp [hp1];omega) (by simp [hp1];omega),eact]
       simp only [Option.bind_some,if_true]
       have hlen:addI .i64 (2*s.Actuators) ((acc++[pilSig s (sts s s.Steps.length) a false]).length:Int)=fst s+((bas s).length:Int)+2*(a:Int)+1:=by
        rw [List.length_append,hle,addI_eq (by simp;omega) (by simp;omega)];unfold fst;simp;omega
       rw [pm_succ (d:=1),←hlen]
       rfl
      ·rfl
   try dsimp only
   rw [addI_nat (by omega)]
 try dsimp only
 have hpl:=pils_len s (sts s s.Steps.length) s.Actuators.toNat
 have hbl:=bas_len (s:=s)
 have hlen:((bas s++pils s (sts s s.Steps.length) s.Actuators.toNat).length:Int)=((gnn s+tn s+s.Steps.length+2*s.Actuators.toNat:Nat):Int):=by rw [List.length_append,hpl,hbl]
 rw [hlen]
 by_cases hb:64 < gnn s+tn s+s.Steps.length+2*s.Actuators.toNat
 ·rw [if_pos hb,cond_t (by simp only [decide_eq_true_eq];omega)]
 ·rw [if_neg hb,cond_f (by simp only [decide_eq_false_iff_not];omega)]
  rfl
end G33
