/- Plain laws of chapter 32's models: CascadeBuilds and CascadeLines answer true. No condition. -/
import Derived.Test.YtafgdbaekppjcaaGreatDoorP32r
set_option linter.unusedSectionVars false
set_option linter.unusedVariables false
set_option linter.unusedSimpArgs false
namespace G33
open Go Go.Pl
set_option linter.unusedVariables false
set_option linter.unusedSimpArgs false
theorem ctl_len {s:SSequence}:(ctl s).Signals.length=gnn s+tn s+s.Steps.length+2*s.Actuators.toNat:=by
 unfold ctl
 rw [List.length_append,bas_len,pils_len]
def noC:SControl:=⟨0,[],[],[],[]⟩
def built (s:SSequence):SControl×Int:=if err s≠0 then (noC,err s) else (ctl s,0)
theorem err_zero {s:SSequence} (he:err s=0):chk s=0∧gnn s+tn s+s.Steps.length+2*s.Actuators.toNat≤64:=by
 unfold err at he
 split at he
 ·rename_i h;exact absurd he h
 ·split at he
  ·omega
  ·omega
theorem m60_err {s:SSequence} (h:chk s≠0):m60 s=some (none,chk s):=by
 unfold m60
 rw [m81_eq]
 refine (bind_val rfl).trans ?_
 exact cond_t (by simpa using h)
theorem m60_all (s:SSequence):m60 s=some (if err s≠0 then (none,err s) else (some ⟨s,few s,gl s,tms s (tc s) s.Steps.length,sts s s.Steps.length,ctl s⟩,0)):=by
 by_cases hc:chk s=0
 ·rw [m60_eq hc]
  have hn:¬ chk s≠0:=fun h=>h hc
  unfold err
  simp only [if_neg hn]
  by_cases hb:64 < gnn s+tn s+s.Steps.length+2*s.Actuators.toNat
  ·simp only [if_pos hb,if_pos (show (5:Int)≠0 by decide)]
  ·simp only [if_neg hb,if_neg (show ¬ (0:Int)≠0 by decide)]
 ·rw [m60_err hc]
  unfold err
  simp only [if_pos hc]
theorem m10_some (s:SSequence):∃ b,m10 s=some b∧(b=true→Small s):=by
 unfold m10
 by_cases hs:s.Steps.length≤128
 ·rw [cond_f (by simp only [decide_eq_false_iff_not];omega)]
  rw [iter_list s.Steps (fun x=>bif decide ((x.Strokes.length:Int) > 40) then some false else none) ?hn () ?h0 ?h ?he]
  case hn=>unfold fuel;omega
  case h0=>rfl
  case he=>
   try dsimp only
   rw [cond_f (lt_f (by omega))]
  case h=>
   intro k hk
   try dsimp only
   rw [cond_t (lt_t (by omega)),idx_lt hk]
   simp only [Option.bind_some]
   rw [addI_nat (by omega)]
   cases decide ((s.Steps[k].Strokes.length:Int) > 40)<;>rfl
  cases hf:s.Steps.findSome? (fun x=>bif decide ((x.Strokes.length:Int) > 40) then some false else none) with
  | none=>
   refine ⟨true,rfl,fun _=>⟨by omega,fun x hx=>?_⟩⟩
   rw [List.findSome?_eq_none_iff] at hf
   have:=hf x hx
   cases hd:decide ((x.Strokes.length:Int) > 40) with
   | true=>rw [hd] at this;cases this
   | false=>rw [decide_eq_false_iff_not] at hd;omega
  | some r=>
   refine ⟨r,rfl,fun hr=>?_⟩
   obtain ⟨x,hx,hr2⟩:=List.exists_of_findSome?_eq_some hf
   cases hd:decide ((x.Strokes.length:Int) > 40) with
   | true=>rw [hd] at hr2;injection hr2 with hr2;rw [hr] at hr2;cases hr2
   | false=>rw [hd] at hr2;cases hr2
 ·exact ⟨false,by rw [cond_t (by simp only [decide_eq_true_eq];omega)],nofun⟩
theorem m25_run:m25=some true:=rfl
theorem m21_refl (l:List Int) (h:l.length < 1000000):m21 l l=some true:=by
 unfold m21
 rw [cond_f (by simp),iter_all l.length (by unfold fuel;omega)]
 ·rfl
 ·intro k hk
  rw [cond_t (lt_t (by omega)),idx_lt hk]
  simp only [Option.bind_some,bne_self_eq_false,cond_false]
  rw [addI_nat (by omega)]
 ·rw [cond_f (lt_f (by omega))]
def kn (d:Int) (l:List SSignal) (k:Nat):Nat:=((l.take k).filter fun x=>x.Kind==d).length
theorem kn_succ {d:Int} {l:List SSignal} {k:Nat} (h:k < l.length):kn d l (k+1)=if l[k].Kind=d then kn d l k+1 else kn d l k:=by
 unfold kn
 rw [List.take_add_one,List.getElem?_eq_getElem h,List.filter_append,List.length_append]
 by_cases hk:l[k].Kind=d
 ·rw [if_pos hk];simp [hk]
 ·rw [if_neg hk];simp [hk]
theorem kn_le (d:Int) (l:List SSignal) (k:Nat):kn d l k≤k:=by
 unfold kn
 exact Nat.le_trans (List.length_filter_le _ _) (by rw [List.length_take];omega)
def kna (d:Int) (l:List SSignal):Nat:=(l.filter fun x=>x.Kind==d).length
theorem kna_app (d:Int) (a b:List SSignal):kna d (a++b)=kna d a+kna d b:=by unfold kna;rw [List.filter_append,List.length_append]
theorem kna_all {d:Int} {l:List SSignal} (h:∀ x∈l,x.Kind=d):kna d l=l.length:=by
 unfold kna;rw [List.filter_eq_self.2 (fun x hx=>by simp [h x hx])]
theorem kna_no {d:Int} {l:List SSignal} (h:∀ x∈l,x.Kind≠d):kna d l=0:=by
 unfold kna;rw [List.filter_eq_nil_iff.2 (fun x hx=>by simp [h x hx])];rfl
theorem count_eq (l:List SSignal) (hl:l.length < 1000000):(iter (fun s3:Int×Int×Int=>((bif (decide (s3.2.2 < (l.length:Int))) then (idx l s3.2.2).bind fun v5=>((bif (v5.Kind==1) then some ((addI .i64 s3.1 1),s3.2.1) else ((bif (v5.Kind==2) then some (addI .i64 s3.2.1 1) else some s3.2.1):Option (Int)).bind fun w7=>some (s3.1,w7)):Option (Int×Int)).bind fun w6=>some (.inl (w6.1,w6.2,(addI .i64 s3.2.2 1))) else some (.inr (s3.1,s3.2.1))):Option ((Int×Int×Int)⊕(Int×Int)))) (0,0,0))=some ((kna 1 l:Int),(kna 2 l:Int)):=by
 rw [iter_fold (fun k:Nat=>((kn 1 l k:Int),(kn 2 l k:Int),(k:Int))) l.length ?hn ((kna 1 l:Int),(kna 2 l:Int)) ?h0 ?h ?he]
 case hn=>unfold fuel;omega
 case h0=>rfl
 case he=>
  try dsimp only
  rw [cond_f (lt_f (by omega))]
  unfold kn kna
  rw [List.take_length]
 case h=>
  intro k hk
  try dsimp only
  have h1:=kn_le 1 l k
  have h2:=kn_le 2 l k
  rw [cond_t (lt_t (by omega)),idx_lt hk,kn_succ hk,kn_succ hk,addI_nat (show k < _ by omega),addI_nat (show kn 1 l k < _ by omega),addI_nat (show kn 2 l k < _ by omega)]
  simp only [Option.bind_some]
  by_cases c1:l[k].Kind=1
  ·rw [cond_t (by simp [c1]),if_pos c1,if_neg (by omega)];rfl
  ·rw [cond_f (by simp [c1]),if_neg c1]
   by_cases c2:l[k].Kind=2
   ·rw [cond_t (by simp [c2]),if_pos c2];rfl
   ·rw [cond_f (by simp [c2]),if_neg c2];rfl
def mem (s:SSequence):Nat:=if gnn s=2 then 1 else gnn s
theorem clks_kind (s:SSequence) (M:List Int) (k:Nat):∀ x∈clks s M k,x.Kind=2:=by
 intro x hx
 obtain ⟨j,hj,hx⟩:=List.mem_flatMap.1 hx
 unfold clkOf at hx
 split at hx
 ·split at hx
  ·cases hx
  ·simp only [List.mem_cons,List.not_mem_nil,or_false] at hx
   subst hx;rfl
 ·cases hx
theorem st_kind (s:SSequence) (k:Nat):∀ x∈stSigs s k,x.Kind=0:=by
 intro x hx
 obtain ⟨j,hj,rfl⟩:=List.mem_map.1 hx
 rfl
theorem pil_kind (s:SSequence) (M:List Int) (k:Nat):∀ x∈pils s M k,x.Kind=0:=by
 intro x hx
 obtain ⟨a,ha,hx⟩:=List.mem_flatMap.1 hx
 simp only [List.mem_cons,List.not_mem_nil,or_false] at hx
 rcases hx with rfl | rfl<;>rfl
theorem gr_kind (s:SSequence) (k:Nat):∀ x∈grSigs s k,x.Kind=1:=by
 intro x hx
 obtain ⟨j,hj,rfl⟩:=List.mem_map.1 hx
 rfl
theorem kinds (s:SSequence):kna 1 (ctl s).Signals=mem s∧kna 2 (ctl s).Signals=tn s:=by
 have e:(ctl s).Signals=lns s++clks s (bel s s.Steps.length) s.Steps.length++stSigs s s.Steps.length++pils s (sts s s.Steps.length) s.Actuators.toNat:=rfl
 rw [e]
 simp only [kna_app]
 have c1:kna 2 (clks s (bel s s.Steps.length) s.Steps.length)=tn s:=by
  rw [kna_all (clks_kind _ _ _),clks_cnt bel_len _ (Nat.le_refl _)];rfl
 have c2:kna 1 (clks s (bel s s.Steps.length) s.Steps.length)=0:=kna_no fun x hx=>by rw [clks_kind _ _ _ x hx];decide
 have c3:kna 2 (stSigs s s.Steps.length)=0:=kna_no fun x hx=>by rw [st_kind _ _ x hx];decide
 have c4:kna 1 (stSigs s s.Steps.length)=0:=kna_no fun x hx=>by rw [st_kind _ _ x hx];decide
 have c5:kna 2 (pils s (sts s s.Steps.length) s.Actuators.toNat)=0:=kna_no fun x hx=>by rw [pil_kind _ _ _ x hx];decide
 have c6:kna 1 (pils s (sts s s.Steps.length) s.Actuators.toNat)=0:=kna_no fun x hx=>by rw [pil_kind _ _ _ x hx];decide
 have c7:kna 1 (lns s)=mem s∧kna 2 (lns s)=0:=by
  unfold lns mem
  split
  ·exact ⟨rfl,rfl⟩
  ·exact ⟨by rw [kna_all (gr_kind _ _)];simp [grSigs],kna_no fun x hx=>by rw [gr_kind _ _ x hx];decide⟩
 rw [c1,c2,c3,c4,c5,c6,c7.1,c7.2]
 exact ⟨by omega,by omega⟩
theorem m36_eq (s:SSequence):m36 s=some (if err s≠0 then (0,0,err s) else ((mem s:Int),(tn s:Int),0)):=by
 unfold m36
 rw [m60_all]
 refine (bind_val rfl).trans ?_
 by_cases he:err s≠0
 ·simp only [if_pos he]
  exact cond_t (by simpa using he)
 ·obtain ⟨hc,hb⟩:=err_zero (s:=s) (by omega)
  simp only [if_neg he]
  rw [cond_f (by rfl)]
  refine (bind_val rfl).trans ?_
  have hl:=ctl_len (s:=s)
  refine (bind_val (count_eq (ctl s).Signals (by omega))).trans ?_
  rw [(kinds s).1,(kinds s).2]
theorem m37_eq (s:SSequence) (hs:Small s):m37 s=some (if err s≠0 then (0,0,err s) else ((mem s:Int),(tn s:Int),0)):=by
 unfold m37
 rw [m61_eq s hs]
 refine (bind_val rfl).trans ?_
 by_cases he:err s≠0
 ·simp only [if_pos he]
  exact cond_t (by simpa using he)
 ·obtain ⟨hc,hb⟩:=err_zero (s:=s) (by omega)
  have h:=chk_right hc
  simp only [if_neg he]
  rw [cond_f (by simpa using he),m73_eq h,m74_eq h]
  simp only [Option.bind_some]
  rw [few_gn,m75_pln h]
  unfold mem
  by_cases h2:gnn s=2
  ·rw [cond_t (by simp [h2]),if_pos h2];rfl
  ·rw [cond_f (by simp;omega),if_neg h2];rfl
theorem plain8 (s:SSequence):m8 s=some true:=by
 obtain ⟨b,hb,hS⟩:=m10_some s
 unfold m8
 rw [hb]
 cases b with
 | false=>rfl
 | true=>
  have hs:=hS rfl
  simp only [Option.bind_some,Bool.not_true,cond_false]
  rw [m36_eq,m37_eq s hs]
  have e32:m32 s=some (if err s≠0 then ([],err s) else (gl s,0)):=by
   unfold m32
   rw [m60_all]
   refine (bind_val rfl).trans ?_
   by_cases he:err s≠0
   ·simp only [if_pos he];exact cond_t (by simpa using he)
   ·simp only [if_neg he];rfl
  have e33:m33 s=some (if err s≠0 then ([],err s) else (gl s,0)):=by
   unfold m33
   rw [m61_eq s hs]
   refine (bind_val rfl).trans ?_
   by_cases he:err s≠0
   ·simp only [if_pos he];exact cond_t (by simpa using he)
   ·simp only [if_neg he];rw [cond_f (by simpa using he),m71_eq (chk_right (err_zero (by omega)).1)];rfl
  have e34:m34 s=some (if err s≠0 then ([],err s) else (sts s s.Steps.length,0)):=by
   unfold m34
   rw [m60_all]
   refine (bind_val rfl).trans ?_
   by_cases he:err s≠0
   ·simp only [if_pos he];exact cond_t (by simpa using he)
   ·simp only [if_neg he];rfl
  have e35:m35 s=some (if err s≠0 then ([],err s) else (sts s s.Steps.length,0)):=by
   unfold m35
   rw [m61_eq s hs]
   refine (bind_val rfl).trans ?_
   by_cases he:err s≠0
   ·simp only [if_pos he];exact cond_t (by simpa using he)
   ·simp only [if_neg he];rw [cond_f (by simpa using he),m72_eq (chk_right (err_zero (by omega)).1)];rfl
  rw [e32,e33,e34,e35]
  simp only [Option.bind_some]
  have l1:(if err s≠0 then (([]:List Int),err s) else (gl s,0)).1.length < 1000000:=by
   split
   ·show (0:Nat) < _;decide
   ·rename_i he
    obtain ⟨hc,hb⟩:=err_zero (s:=s) (by omega)
    show (gl s).length < _
    rw [gl_len];omega
  have l2:(if err s≠0 then (([]:List Int),err s) else (sts s s.Steps.length,0)).1.length < 1000000:=by
   split
   ·show (0:Nat) < _;decide
   ·rename_i he
    obtain ⟨hc,hb⟩:=err_zero (s:=s) (by omega)
    show (sts s _).length < _
    rw [sts_len];omega
  rw [m21_refl _ l1,m21_refl _ l2]
  simp only [Option.bind_some,Bool.not_true,cond_false,bne_self_eq_false]
  rw [cond_t (by simp),cond_t (by simp),cond_t (by simp),m25_run]
  rfl
end G33
