/- Parts of my machine and its laws, joined: P32n P32o P32p. No condition. -/
import Derived.Test.YtafgdbaekppjcaaGreatDoorP32d
set_option linter.unusedSectionVars false
set_option linter.unusedVariables false
set_option linter.unusedSimpArgs false
section
namespace G33
open Go Go.Pl
set_option linter.unusedVariables false
set_option linter.unusedSimpArgs false
structure Right (s:SSequence):Prop where
 a1:1≤s.Actuators
 a6:s.Actuators≤6
 n0:0 < s.Steps.length
 n64:s.Steps.length≤64
 step:∀ i (h:i < s.Steps.length),StepIn s s.Steps[i]
 mv:∀ a,a < s.Actuators.toNat→(s.Steps.any fun x=>hasA x (a:Int))=true
theorem chk_right {s:SSequence} (h:chk s=0):Right s:=by
 unfold chk at h
 split at h
 ·omega
 split at h
 ·omega
 split at h
 ·omega
 rename_i h1 h2 h3
 split at h
 ·rename_i r hr
  exfalso
  subst h
  unfold first at hr
  obtain ⟨k,_,hk⟩:=List.exists_of_findSome?_eq_some hr
  unfold seqG at hk
  split at hk
  ·simp at hk
  ·split at hk
   ·rename_i h;injection hk with hk;exact h hk
   ·simp at hk
 ·rename_i hf
  rw [first_none_iff] at hf
  split at h
  ·omega
  split at h
  ·rename_i hm
   refine ⟨by omega,by omega,by omega,by omega,fun i hi=>(seqG_none hi (hf i hi)).1,fun a ha=>?_⟩
   rw [List.all_eq_true] at hm
   have:=hm a (List.mem_range.2 ha)
   rw [moved_eq s a _ (Nat.le_refl _),List.take_of_length_le (Nat.le_refl _)] at this
   exact this
  ·omega
def mask (l:List SStroke):Nat:=l.foldl (fun m y=>m||| 2 ^ y.Actuator.toNat) 0
theorem mask_take {l:List SStroke} {k:Nat} (h:k < l.length):mask (l.take (k+1))=mask (l.take k)||| 2 ^ l[k].Actuator.toNat:=by
 unfold mask
 rw [List.take_add_one,List.getElem?_eq_getElem h,List.foldl_append]
 rfl
theorem mask_fold (l:List SStroke) (m:Nat) (a:Nat):(l.foldl (fun m y=>m||| 2 ^ y.Actuator.toNat) m).testBit a=(m.testBit a||l.any fun y=>y.Actuator.toNat==a):=by
 induction l generalizing m with
 | nil=>simp
 | cons y l ih=>
  rw [List.foldl_cons,ih,List.any_cons,Nat.testBit_or,Nat.testBit_two_pow]
  cases m.testBit a<;>by_cases h:y.Actuator.toNat=a<;>simp [h]
theorem mask_bit (l:List SStroke) (a:Nat):(mask l).testBit a=l.any fun y=>y.Actuator.toNat==a:=by
 unfold mask;rw [mask_fold];simp
theorem mask_lt (l:List SStroke) (h:∀ k (h:k < l.length),0≤l[k].Actuator∧l[k].Actuator < 6):mask l < 64:=by
 refine Nat.lt_pow_two_of_testBit (n:=6) _ fun a ha=>?_
 rw [mask_bit,List.any_eq_false]
 intro y hy
 obtain ⟨k,hk,rfl⟩:=List.getElem_of_mem hy
 have:=h k hk
 simp;omega
theorem bits_idx {a:Int} (h0:0≤a) (h1:a < 6):idx ([1,2,4,8,16,32]:List Int) a=some ((2 ^ a.toNat:Nat):Int):=by
 have:a=0∨a=1∨a=2∨a=3∨a=4∨a=5:=by omega
 rcases this with rfl | rfl | rfl | rfl | rfl | rfl<;>rfl
theorem m253_eq {x:SStep} (h:StepOk x):m253 x=some (mask x.Strokes:Int):=by
 have hle:=h.le
 unfold m253
 rw [iter_fold (fun k:Nat=>((mask (x.Strokes.take k):Int),(k:Int))) x.Strokes.length ?hn (mask x.Strokes:Int) ?h0 ?h ?he]
 case hn=>unfold fuel;omega
 case h0=>rfl
 case he=>
  try dsimp only
  rw [cond_f (lt_f (by omega)),List.take_of_length_le (Nat.le_refl _)]
 case h=>
  intro k hk
  try dsimp only
  obtain ⟨h1,h2⟩:=h.act k hk
  rw [cond_t (lt_t (by omega)),idx_lt hk]
  simp only [Option.bind_some]
  rw [bits_idx h1 h2]
  simp only [Option.bind_some]
  have hm:mask (x.Strokes.take k) < 64:=mask_lt _ fun i hi=>by
   simp only [List.getElem_take];exact h.act i (by simp at hi;omega)
  have hp:2 ^ x.Strokes[k].Actuator.toNat < 18446744073709551616:=Nat.pow_lt_pow_right (a:=2) (by omega) (show x.Strokes[k].Actuator.toNat < 64 by omega)
  rw [orI_nat (by omega) hp,addI_nat (by omega),mask_take hk]
 rfl
def share (s:SSequence) (x y:SStep):Bool:=(List.range s.Actuators.toNat).any fun a=>hasA x (a:Int)&&hasA y (a:Int)
theorem hasA_bit {x:SStep} (h:StepOk x) (a:Nat):hasA x (a:Int)=(mask x.Strokes).testBit a:=by
 rw [mask_bit]
 unfold hasA
 rw [Bool.eq_iff_iff,List.any_eq_true,List.any_eq_true]
 constructor
 ·rintro ⟨y,hy,e⟩
  refine ⟨y,hy,?_⟩
  simp at e ⊢;omega
 ·rintro ⟨y,hy,e⟩
  refine ⟨y,hy,?_⟩
  obtain ⟨k,hk,rfl⟩:=List.getElem_of_mem hy
  have:=h.act k hk
  simp at e ⊢;omega
theorem hasA_lt {s:SSequence} {x:SStep} (h:StepIn s x) {a:Nat} (ha:hasA x (a:Int)=true):a < s.Actuators.toNat:=by
 unfold hasA at ha
 rw [List.any_eq_true] at ha
 obtain ⟨y,hy,e⟩:=ha
 obtain ⟨k,hk,rfl⟩:=List.getElem_of_mem hy
 have:=h.far k hk
 simp at e
 omega
theorem mask_and_zero {a b:Nat}:a&&& b=0↔∀ i,¬(a.testBit i=true∧b.testBit i=true):=by
 constructor
 ·intro h i hi
  have:=congrArg (fun n=>n.testBit i) h
  simp [Nat.testBit_and,hi.1,hi.2] at this
 ·intro h
  refine Nat.eq_of_testBit_eq fun i=>?_
  rw [Nat.testBit_and,Nat.zero_testBit]
  have:=h i
  cases ha:a.testBit i<;>cases hb:b.testBit i<;>simp_all
theorem share_mask {s:SSequence} {x y:SStep} (hx:StepIn s x) (hy:StepIn s y):share s x y= !decide (mask x.Strokes&&& mask y.Strokes=0):=by
 rw [Bool.eq_iff_iff]
 unfold share
 rw [List.any_eq_true]
 simp only [Bool.not_eq_true',decide_eq_false_iff_not,mask_and_zero,Classical.not_forall,Classical.not_not]
 constructor
 ·rintro ⟨a,_,h⟩
  rw [Bool.and_eq_true] at h
  exact ⟨a,by rw [←hasA_bit hx.ok];exact h.1,by rw [←hasA_bit hy.ok];exact h.2⟩
 ·rintro ⟨a,h1,h2⟩
  rw [←hasA_bit hx.ok] at h1
  rw [←hasA_bit hy.ok] at h2
  exact ⟨a,List.mem_range.2 (hasA_lt hx h1),by rw [h1,h2];rfl⟩
theorem m129_eq {s:SSequence} (h:Right s) {i j:Nat} (hi:i < s.Steps.length) (hj:j < s.Steps.length):m129 s i j=some (share s s.Steps[i] s.Steps[j]):=by
 have hA:=h.a6
 have l1:=(h.step i hi).ok.le
 have l2:=(h.step j hj).ok.le
 unfold m129
 rw [iter_list (List.range s.Actuators.toNat) (fun a=>bif hasA s.Steps[i] (a:Int)&&hasA s.Steps[j] (a:Int) then some true else none) ?hn () ?h0 ?h ?he]
 case hn=>unfold fuel;simp;omega
 case h0=>rfl
 case he=>
  try dsimp only
  rw [cond_f (lt_f (by simp;omega))]
 case h=>
  intro k hk
  have hk':k < s.Actuators.toNat:=by simpa using hk
  try dsimp only
  rw [cond_t (lt_t (by omega)),idx_lt hi]
  simp only [Option.bind_some,List.getElem_range]
  rw [m157_eq _ _ (by omega),addI_nat (by omega)]
  simp only [Option.bind_some,way_ne]
  rw [idx_lt hj]
  simp only [Option.bind_some]
  rw [m157_eq _ _ (by omega)]
  simp only [Option.bind_some,way_ne]
  cases hasA s.Steps[i] (k:Int)<;>cases hasA s.Steps[j] (k:Int)<;>rfl
 rw [findSome_if]
 unfold share
 cases (List.range s.Actuators.toNat).any fun a=>hasA s.Steps[i] (a:Int)&&hasA s.Steps[j] (a:Int)<;>rfl
theorem getD_lt {α:Type} {l:List α} {i:Nat} {d:α} (h:i < l.length):l.getD i d=l[i]:=by simp [List.getD,h]
def stp (s:SSequence) (i:Nat):SStep:=s.Steps.getD (i % s.Steps.length) ⟨[],0⟩
def mk (s:SSequence) (i:Nat):Nat:=mask (stp s i).Strokes
def alone (s:SSequence) (f k:Nat):Bool:=(List.range k).all fun i=>(List.range i).all fun j=>decide (mk s (f+i)&&& mk s (f+j)=0)
def acc (s:SSequence) (f:Nat):Nat→Nat
 | 0=>0
 | k+1=>acc s f k||| mk s (f+k)
theorem stp_eq {s:SSequence} (h:Right s) (i:Nat):∃ hi:i % s.Steps.length < s.Steps.length,stp s i=s.Steps[i % s.Steps.length]:=by
 have:=h.n0
 have hi:=Nat.mod_lt i this
 exact ⟨hi,by unfold stp;rw [getD_lt hi]⟩
theorem stp_in {s:SSequence} (h:Right s) (i:Nat):StepIn s (stp s i):=by
 obtain ⟨hi,e⟩:=stp_eq h i
 rw [e];exact h.step _ hi
theorem stp_lt {s:SSequence} {i:Nat} (hi:i < s.Steps.length):stp s i=s.Steps[i]:=by
 unfold stp
 have:i % s.Steps.length < s.Steps.length:=by rw [Nat.mod_eq_of_lt hi];exact hi
 rw [getD_lt this]
 congr 1
 exact Nat.mod_eq_of_lt hi
theorem mk_lt {s:SSequence} (h:Right s) (i:Nat):mk s i < 64:=mask_lt _ (stp_in h i).ok.act
theorem acc_lt {s:SSequence} (h:Right s) (f:Nat):∀ k,acc s f k < 64
 | 0=>by simp [acc]
 | k+1=>Nat.or_lt_two_pow (n:=6) (acc_lt h f k) (mk_lt h _)
theorem alone_iff {s:SSequence} {f k:Nat}:alone s f k=true↔∀ i,i < k→∀ j,j < i→mk s (f+i)&&& mk s (f+j)=0:=by
 simp [alone,List.all_eq_true]
theorem alone_mono {s:SSequence} {f k m:Nat} (h:alone s f k=true) (hm:m≤k):alone s f m=true:=by
 rw [alone_iff] at h ⊢
 intro i hi j hj
 exact h i (by omega) j hj
theorem acc_bit (s:SSequence) (f a:Nat):∀ k,(acc s f k).testBit a=(List.range k).any fun i=>(mk s (f+i)).testBit a
 | 0=>by simp [acc]
 | k+1=>by rw [acc,Nat.testBit_or,acc_bit s f a k,List.range_succ,List.any_append];simp
theorem acc_bit_iff {s:SSequence} {f k a:Nat}:(acc s f k).testBit a=true↔∃ i,i < k∧(mk s (f+i)).testBit a=true:=by
 rw [acc_bit,List.any_eq_true]
 constructor
 ·rintro ⟨i,hi,h⟩;exact ⟨i,List.mem_range.1 hi,h⟩
 ·rintro ⟨i,hi,h⟩;exact ⟨i,List.mem_range.2 hi,h⟩
theorem acc_zero {s:SSequence} {f k x:Nat}:acc s f k&&& x=0↔∀ i,i < k→mk s (f+i)&&& x=0:=by
 constructor
 ·intro h i hi
  rw [mask_and_zero] at h ⊢
  intro a ha
  exact h a ⟨acc_bit_iff.2 ⟨i,hi,ha.1⟩,ha.2⟩
 ·intro h
  rw [mask_and_zero]
  intro a ha
  obtain ⟨i,hi,hb⟩:=acc_bit_iff.1 ha.1
  exact (mask_and_zero.1 (h i hi)) a ⟨hb,ha.2⟩
theorem alone_succ {s:SSequence} {f k:Nat}:alone s f (k+1)=true↔alone s f k=true∧acc s f k&&& mk s (f+k)=0:=by
 rw [acc_zero]
 constructor
 ·intro h
  refine ⟨alone_mono h (by omega),fun i hi=>?_⟩
  rw [Nat.and_comm]
  exact alone_iff.1 h k (by omega) i hi
 ·rintro ⟨h1,h2⟩
  rw [alone_iff] at h1 ⊢
  intro i hi j hj
  by_cases e:i=k
  ·subst e;rw [Nat.and_comm];exact h2 j hj
  ·exact h1 i (by omega) j hj
theorem remc_nat {x n:Nat} (h:0 < n):remc (x:Int) (n:Int)=some ((x % n:Nat):Int):=by
 unfold remc
 rw [if_neg (by omega)]
 rfl
def onceG (s:SSequence) (f:Nat) (k:Nat):Option (Int×Bool):=if acc s f k&&& mk s (f+k)=0 then none else some ((acc s f k:Int),false)
theorem first_once {s:SSequence} {f:Nat}:∀ k,(alone s f k=true→first k (onceG s f)=none)∧(alone s f k=false→∃ m,first k (onceG s f)=some (m,false)):=by
 intro k
 constructor
 ·intro h
  rw [first_none_iff]
  intro j hj
  unfold onceG
  rw [if_pos (alone_succ.1 (alone_mono h hj)).2]
 ·intro h
  cases hf:first k (onceG s f) with
  | none=>
   exfalso
   rw [first_none_iff] at hf
   have:∀ j,j≤k→alone s f j=true:=by
    intro j
    induction j with
    | zero=>intro _;rfl
    | succ j ih=>
     intro hj
     refine alone_succ.2 ⟨ih (by omega),?_⟩
     have:=hf j (by omega)
     unfold onceG at this
     refine Classical.byContradiction fun hc=>?_
     rw [if_neg hc] at this;simp at this
   rw [this k (Nat.le_refl _)] at h;simp at h
  | some r=>
   unfold first at hf
   obtain ⟨j,_,hj⟩:=List.exists_of_findSome?_eq_some hf
   unfold onceG at hj
   split at hj
   ·simp at hj
   ·injection hj with hj;exact ⟨_,by rw [←hj]⟩
theorem m224_eq {s:SSequence} (h:Right s) (f k:Nat) (hf:f < 1000000) (hk:k < 1000000):∃ m,m224 s (f:Int) (k:Int)=some (m,alone s f k)∧(alone s f k=true→m=(acc s f k:Int)):=by
 unfold m224
 have hn:=h.n0
 have hn64:=h.n64
 rw [iter_first (fun i:Nat=>((acc s f i:Int),(i:Int))) (onceG s f) k ?hn ((acc s f k:Int)) ?h0 ?h ?he]
 case hn=>unfold fuel;omega
 case h0=>rfl
 case he=>
  intro _
  try dsimp only
  rw [cond_f (lt_f (by omega))]
 case h=>
  intro i hi _
  try dsimp only
  have hlt:=Nat.mod_lt (f+i) hn
  rw [cond_t (lt_t (by omega)),show addI .i64 (f:Int) (i:Int)=((f+i:Nat):Int) by rw [addI_eq (by omega) (by omega)];omega,remc_nat hn]
  simp only [Option.bind_some]
  rw [idx_lt hlt]
  simp only [Option.bind_some]
  obtain ⟨_,e⟩:=stp_eq h (f+i)
  rw [m253_eq (h.step _ hlt).ok,←e]
  simp only [Option.bind_some]
  have b1:=acc_lt h f i
  have b2:=mk_lt h (f+i)
  have e2:mask (stp s (f+i)).Strokes=mk s (f+i):=rfl
  rw [e2,andI_nat (by omega) (by omega),orI_nat (by omega) (by omega),addI_nat (by omega)]
  unfold onceG
  by_cases hz:acc s f i&&& mk s (f+i)=0
  ·rw [if_pos hz,hz];rfl
  ·rw [if_neg hz,cond_t (by simp;omega)]
 obtain ⟨h1,h2⟩:=first_once (s:=s) (f:=f) k
 cases ha:alone s f k with
 | true=>rw [h1 ha];exact ⟨_,rfl,fun _=>rfl⟩
 | false=>
  obtain ⟨m,hm⟩:=h2 ha
  rw [hm];exact ⟨_,rfl,fun h=>by simp at h⟩
theorem share_mk {s:SSequence} (h:Right s) (i j:Nat):share s (stp s i) (stp s j)= !decide (mk s i&&& mk s j=0):=share_mask (stp_in h i) (stp_in h j)
end G33
end
section
namespace G33
open Go Go.Pl
set_option linter.unusedVariables false
set_option linter.unusedSimpArgs false
def gre (s:SSequence) (f0:Nat):Nat→List Nat×Nat
 | 0=>([f0],0)
 | i+1=>if alone s ((gre s f0 i).1.getD ((gre s f0 i).1.length - 1) 0) ((gre s f0 i).2+1)=true then ((gre s f0 i).1,(gre s f0 i).2+1) else ((gre s f0 i).1++[f0+i],1)
structure Greedy (s:SSequence) (f0 i:Nat) (o:List Nat) (z:Nat):Prop where
 ne:0 < o.length
 le:o.length≤i+1
 hd:o.getD 0 0=f0
 sz:o.getD (o.length - 1) 0+z=f0+i
 al:alone s (o.getD (o.length - 1) 0) z=true
 zp:0 < i→0 < z
 inc:∀ j,j+1 < o.length→o.getD j 0 < o.getD (j+1) 0
 st:∀ j,j+1 < o.length→alone s (o.getD j 0) (o.getD (j+1) 0 - o.getD j 0)=true∧alone s (o.getD j 0) (o.getD (j+1) 0 - o.getD j 0+1)=false
theorem alone_one (s:SSequence) (f:Nat):alone s f 1=true:=by
 rw [alone_iff];intro i hi j hj;omega
theorem getD_app {o:List Nat} {x j:Nat} (h:j < o.length):(o++[x]).getD j 0=o.getD j 0:=by
 rw [getD_lt (by simp;omega),getD_lt h,List.getElem_append_left h]
theorem getD_end (o:List Nat) (x:Nat):(o++[x]).getD o.length 0=x:=by
 rw [getD_lt (by simp)];simp
theorem greedy (s:SSequence) (f0:Nat):∀ i,Greedy s f0 i (gre s f0 i).1 (gre s f0 i).2
 | 0=>⟨by simp [gre],by simp [gre],rfl,rfl,by rw [alone_iff];intro i hi;simp [gre] at hi,by omega,fun j hj=>by simp [gre] at hj,fun j hj=>by simp [gre] at hj⟩
 | i+1=>by
  have h:=greedy s f0 i
  rw [gre]
  by_cases ha:alone s ((gre s f0 i).1.getD ((gre s f0 i).1.length - 1) 0) ((gre s f0 i).2+1)=true
  ·rw [if_pos ha]
   have:=h.le
   have:=h.sz
   exact ⟨h.ne,by dsimp only;omega,h.hd,by dsimp only;omega,ha,fun _=>by dsimp only;omega,h.inc,h.st⟩
  ·rw [if_neg ha]
   have hne:=h.ne
   have hle:=h.le
   have hsz:=h.sz
   have hi0:0 < i:=by
    refine Nat.pos_of_ne_zero fun hc=>?_
    subst hc
    exact ha (alone_one _ _)
   have hz:=h.zp hi0
   refine ⟨by simp,by simp;omega,?_,?_,?_,fun _=>by simp,?_,?_⟩
   ·rw [getD_app hne];exact h.hd
   ·simp only [List.length_append,List.length_singleton,Nat.add_sub_cancel]
    rw [getD_end];omega
   ·exact alone_one _ _
   ·intro j hj
    simp only [List.length_append,List.length_singleton] at hj
    dsimp only
    rw [getD_app (show j < (gre s f0 i).1.length by omega)]
    by_cases e:j+1 < (gre s f0 i).1.length
    ·rw [getD_app e];exact h.inc j e
    ·have:j+1=(gre s f0 i).1.length:=by omega
     rw [this,getD_end]
     have e2:j=(gre s f0 i).1.length - 1:=by omega
     rw [e2];omega
   ·intro j hj
    simp only [List.length_append,List.length_singleton] at hj
    dsimp only
    rw [getD_app (show j < (gre s f0 i).1.length by omega)]
    by_cases e:j+1 < (gre s f0 i).1.length
    ·rw [getD_app e];exact h.st j e
    ·have:j+1=(gre s f0 i).1.length:=by omega
     rw [this,getD_end]
     have e2:j=(gre s f0 i).1.length - 1:=by omega
     rw [e2]
     have e3:f0+i - (gre s f0 i).1.getD ((gre s f0 i).1.length - 1) 0=(gre s f0 i).2:=by omega
     rw [e3]
     exact ⟨h.al,by simpa using ha⟩
theorem Greedy.last {s:SSequence} {f0 i:Nat} {o:List Nat} {z:Nat} (h:Greedy s f0 i o z):∀ j,j < o.length→o.getD j 0≤o.getD (o.length - 1) 0:=by
 intro j hj
 have key:∀ d,j+d < o.length→o.getD j 0≤o.getD (j+d) 0:=by
  intro d
  induction d with
  | zero=>intro _;exact Nat.le_refl _
  | succ d ih=>
   intro hd
   have:=ih (by omega)
   have:=h.inc (j+d) hd
   have e:j+(d+1)=j+d+1:=rfl
   rw [e];omega
 have:=key (o.length - 1 - j) (by omega)
 rwa [show j+(o.length - 1 - j)=o.length - 1 by omega] at this
theorem Greedy.big {s:SSequence} {f0 i:Nat} {o:List Nat} {z:Nat} (h:Greedy s f0 i o z):∀ j,j < o.length→f0+j≤o.getD j 0:=by
 intro j
 induction j with
 | zero=>intro _;have:=h.hd;omega
 | succ j ih=>
  intro hj
  have:=ih (by omega)
  have:=h.inc j hj
  omega
def ints (o:List Nat):List Int:=o.map fun x:Nat=>(x:Int)
theorem ints_len (o:List Nat):(ints o).length=o.length:=by simp [ints]
theorem ints_getD (o:List Nat) (j:Nat):(ints o).getD j 0=(o.getD j 0:Int):=by
 by_cases h:j < o.length
 ·rw [getD_lt (by rw [ints_len];exact h),getD_lt h];simp [ints]
 ·simp [ints,List.getD,h]
theorem m164_eq {s:SSequence} (h:Right s) (f0:Nat) (hf:f0 < 1000):m164 s (f0:Int)=some (ints (gre s f0 s.Steps.length).1):=by
 have hn:=h.n64
 unfold m164
 rw [iter_fold (fun i:Nat=>(((gre s f0 i).2:Int),(i:Int),ints (gre s f0 i).1)) s.Steps.length ?hn (ints (gre s f0 s.Steps.length).1) ?h0 ?h ?he]
 case hn=>unfold fuel;omega
 case h0=>rfl
 case he=>
  try dsimp only
  rw [cond_f (lt_f (by omega))]
 case h=>
  intro i hi
  try dsimp only
  have g:=greedy s f0 i
  have hne:=g.ne
  have hle:=g.le
  have hsz:=g.sz
  rw [cond_t (lt_t (by omega)),ints_len,sub_nat hne (by omega),idx_lt (show (gre s f0 i).1.length - 1 < (ints (gre s f0 i).1).length by rw [ints_len];omega)]
  simp only [Option.bind_some]
  rw [←getD_lt (d:=0),ints_getD,addI_nat (by omega)]
  obtain ⟨m,e,_⟩:=m224_eq h ((gre s f0 i).1.getD ((gre s f0 i).1.length - 1) 0) ((gre s f0 i).2+1) (by omega) (by omega)
  rw [e,addI_eq (by omega) (by omega),gre]
  simp only [Option.bind_some]
  cases ha:alone s ((gre s f0 i).1.getD ((gre s f0 i).1.length - 1) 0) ((gre s f0 i).2+1) with
  | true=>
   simp only [Bool.not_true,cond_false,Option.bind_some,if_true]
   rw [addI_nat (by omega),addI_nat (by omega)]
  | false=>
   simp only [Bool.not_false,cond_true,Bool.false_eq_true,if_false]
   rw [appc_eq (by simp only [List.length_singleton,ints_len];omega) (by simp only [List.length_singleton,ints_len];omega)]
   simp only [Option.bind_some]
   rw [addI_nat (by omega),show addI .i64 0 1=(((0+1:Nat)):Int) from addI_nat (k:=0) (by omega)]
   simp [ints]
 rfl
def few (s:SSequence):List Int:=ints (gre s 0 s.Steps.length).1
theorem m101_eq (s:SSequence):m101 s=some (if chk s=0 then (few s,0) else ([],chk s)):=by
 unfold m101
 rw [m81_eq]
 simp only [Option.bind_some]
 by_cases h0:chk s=0
 ·rw [cond_f (by simpa using h0),if_pos h0,show (0:Int)=((0:Nat):Int) from rfl,m164_eq (chk_right h0) 0 (by omega)]
  rfl
 ·rw [cond_t (by simpa using h0),if_neg h0]
end G33
end
section
namespace G33
open Go Go.Pl
set_option linter.unusedVariables false
set_option linter.unusedSimpArgs false
theorem iter_fst {σ ρ:Type} {body:σ→Option (σ⊕ρ)} {s0:σ} (st:Nat→σ) (g:Nat→Option ρ) (n:Nat) (hn:n < fuel) (u:ρ) (h0:s0=st 0)
 (h:∀ k,k < n→(∀ j,j < k→g j=none)→body (st k)=some (match g k with | none=> .inl (st (k+1)) | some r=> .inr r))
 (he:(∀ j,j < n→g j=none)→body (st n)=some (.inr u)):iter body s0=some ((first n g).getD u):=by
 subst h0
 have key:∀ m k,k≤n→n - k < m→(∀ j,j < k→g j=none)→iterN body m (st k)=some ((first n g).getD u):=by
  intro m
  induction m with
  | zero=>intro k _ hlt;omega
  | succ m ih=>
   intro k hk hm hj
   rw [iterN]
   by_cases hkn:k < n
   ·rw [h k hkn hj]
    cases hg:g k with
    | none=>
     exact ih (k+1) hkn (by omega) (fun j hj'=>by
      rcases Nat.lt_or_ge j k with e | e
      ·exact hj j e
      ·have:j=k:=by omega
       subst this;exact hg)
    | some r=>simp only [first_some hkn hj hg,Option.getD_some]
   ·have:k=n:=by omega
    subst this
    rw [he hj,first_none hj];rfl
 exact key fuel 0 (Nat.zero_le _) (by omega) (fun j hj=>by omega)
theorem m129_nat {s:SSequence} (h:Right s) {i j:Nat} (hi:i < s.Steps.length) (hj:j < s.Steps.length):m129 s i j=some (!decide (mk s i&&& mk s j=0)):=by
 rw [m129_eq h hi hj,←stp_lt hi,←stp_lt hj,share_mk h]
theorem m73_eq {s:SSequence} (h:Right s):m73 s=some (few s):=by
 have hn0:=h.n0
 have hn:=h.n64
 unfold m73
 rw [iter_fold (fun k:Nat=>(((k+1:Nat):Int),ints (gre s 0 (k+1)).1)) (s.Steps.length - 1) ?hn (few s) ?h0 ?h ?he]
 case hn=>unfold fuel;omega
 case h0=>rw [show gre s 0 (0+1)=([0],1) from if_pos (alone_one s 0)];rfl
 case he=>
  try dsimp only
  rw [cond_f (lt_f (by omega)),show s.Steps.length - 1+1=s.Steps.length by omega];rfl
 case h=>
  intro k hk
  try dsimp only
  have g:=greedy s 0 (k+1)
  have hne:=g.ne
  have hle:=g.le
  have hsz:=g.sz
  have hal:=g.al
  rw [show gre s 0 (k+1+1)=if alone s ((gre s 0 (k+1)).1.getD ((gre s 0 (k+1)).1.length - 1) 0) ((gre s 0 (k+1)).2+1)=true then ((gre s 0 (k+1)).1,(gre s 0 (k+1)).2+1) else ((gre s 0 (k+1)).1++[0+(k+1)],1) from rfl]
  rw [cond_t (lt_t (by omega)),ints_len,sub_nat hne (by omega),idx_lt (show (gre s 0 (k+1)).1.length - 1 < (ints (gre s 0 (k+1)).1).length by rw [ints_len];omega)]
  simp only [Option.bind_some]
  rw [←getD_lt (d:=0),ints_getD]
  generalize hf:(gre s 0 (k+1)).1.getD ((gre s 0 (k+1)).1.length - 1) 0=f at hsz hal ⊢
  generalize hz:(gre s 0 (k+1)).2=z at hsz hal ⊢
  generalize ho:(gre s 0 (k+1)).1=o at hne hle ⊢
  have ha:alone s f (z+1)=true↔∀ i,i < z→mk s (f+i)&&& mk s (f+z)=0:=by
   rw [alone_succ,acc_zero];exact ⟨fun h=>h.2,fun h=>⟨hal,h⟩⟩
  rw [iter_fst (fun i:Nat=>(((f+i:Nat):Int),ints o)) (fun i=>if mk s (f+i)&&& mk s (f+z)=0 then none else some (ints o++[((k+1:Nat):Int)])) z ?hn (ints o) ?h0 ?h ?he]
  case hn=>unfold fuel;omega
  case h0=>rfl
  case he=>
   intro _
   try dsimp only
   rw [cond_f (lt_f (by omega))]
  case h=>
   intro i hi _
   try dsimp only
   rw [cond_t (lt_t (by omega)),m129_nat h (show f+i < s.Steps.length by omega) (show k+1 < s.Steps.length by omega)]
   simp only [Option.bind_some]
   rw [show k+1=f+z by omega]
   by_cases hc:mk s (f+i)&&& mk s (f+z)=0
   ·rw [if_pos hc,cond_f (by simp [hc]),addI_nat (by omega)];rfl
   ·rw [if_neg hc,cond_t (by simp [hc]),appc_eq (by simp only [List.length_singleton,ints_len];omega) (by simp only [List.length_singleton,ints_len];omega)];rfl
  simp only [Option.bind_some]
  rw [addI_nat (by omega)]
  by_cases hc:alone s f (z+1)=true
  ·rw [if_pos hc,first_none (fun i hi=>by rw [if_pos (ha.1 hc i hi)])];rfl
  ·rw [if_neg hc]
   cases hff:first z (fun i=>if mk s (f+i)&&& mk s (f+z)=0 then none else some (ints o++[((k+1:Nat):Int)])) with
   | none=>
    exfalso
    rw [first_none_iff] at hff
    refine hc (ha.2 fun i hi=>?_)
    have:=hff i hi
    refine Classical.byContradiction fun hx=>?_
    rw [if_neg hx] at this;cases this
   | some r=>
    unfold first at hff
    obtain ⟨i,_,hi⟩:=List.exists_of_findSome?_eq_some hff
    split at hi
    ·cases hi
    ·injection hi with hi
     subst hi
     simp [ints]
 rfl
def div (s:SSequence):List Nat:=(gre s 0 s.Steps.length).1
def gnn (s:SSequence):Nat:=(div s).length
theorem few_div (s:SSequence):few s=ints (div s):=rfl
theorem few_gn (s:SSequence):(few s).length=gnn s:=ints_len _
theorem div_facts {s:SSequence} (h:Right s):0 < gnn s∧gnn s≤s.Steps.length∧(div s).getD 0 0=0∧∀ j,j < gnn s→(div s).getD j 0 < s.Steps.length∧j≤(div s).getD j 0:=by
 have hn:=h.n0
 have g:=greedy s 0 s.Steps.length
 have hne:=g.ne
 have hsz:=g.sz
 have hz:=g.zp hn
 have hb:=g.big ((gre s 0 s.Steps.length).1.length - 1) (by omega)
 unfold gnn div
 refine ⟨hne,by omega,g.hd,fun j hj=>⟨?_,?_⟩⟩
 ·have:=g.last j hj;omega
 ·have:=g.big j hj;omega
def lst (s:SSequence) (j:Nat):Nat:=if j+1 < gnn s then (div s).getD (j+1) 0 - 1 else s.Steps.length - 1
theorem lst_lt {s:SSequence} (h:Right s) (j:Nat):lst s j < s.Steps.length:=by
 have:=h.n0
 unfold lst
 split
 ·rename_i hj;have:=((div_facts h).2.2.2 (j+1) hj).1;omega
 ·omega
theorem few_idx {s:SSequence} {j:Nat} (hj:j < gnn s):idx (few s) (j:Int)=some ((div s).getD j 0:Int):=by
 rw [idx_lt (by rw [few_gn];exact hj),←getD_lt (d:=0),few_div,ints_getD]
theorem m177_eq {s:SSequence} (h:Right s) {j:Nat} (hj:j < gnn s):m177 s (few s) (j:Int)=some (lst s j:Int):=by
 have hn:=h.n64
 have hn0:=h.n0
 obtain ⟨f1,f2,f3,f4⟩:=div_facts h
 unfold m177 lst
 rw [addI_nat (by omega),few_gn]
 by_cases hc:j+1 < gnn s
 ·have h4:=f4 (j+1) hc
  rw [cond_t (lt_t (by omega)),few_idx hc,if_pos hc]
  simp only [Option.bind_some]
  rw [sub_nat (by omega) (by omega)]
 ·rw [cond_f (lt_f (by omega)),if_neg hc,sub_nat (by omega) (by omega)]
def top (o:List Nat) (k:Nat):Nat→Nat
 | 0=>0
 | m+1=>if o.getD m 0≤k then m else top o k m
theorem top_lt {o:List Nat} {k:Nat}:∀ {m:Nat},0 < m→top o k m < m
 | 0,h=>by omega
 | m+1,_=>by
  rw [top]
  split
  ·omega
  ·by_cases hm:0 < m
   ·have:=top_lt (o:=o) (k:=k) hm;omega
   ·have:m=0:=by omega
    subst this;simp [top]
def grp (s:SSequence) (k:Nat):Nat:=top (div s) k (gnn s)
theorem grp_lt {s:SSequence} (h:Right s) (k:Nat):grp s k < gnn s:=top_lt (div_facts h).1
theorem m178_eq {s:SSequence} (h:Right s) (k:Nat):m178 (few s) (k:Int)=some (grp s k:Int):=by
 have hn:=h.n64
 obtain ⟨f1,f2,f3,f4⟩:=div_facts h
 unfold m178
 rw [iter_fold (fun m:Nat=>((top (div s) k m:Int),(m:Int))) (gnn s) ?hn (grp s k:Int) ?h0 ?h ?he]
 case hn=>unfold fuel;omega
 case h0=>rfl
 case he=>
  try dsimp only
  rw [few_gn,cond_f (lt_f (by omega))];rfl
 case h=>
  intro m hm
  try dsimp only
  rw [few_gn,cond_t (lt_t (by omega)),few_idx hm]
  simp only [Option.bind_some]
  rw [addI_nat (by omega),top]
  by_cases hc:(div s).getD m 0≤k
  ·rw [cond_t (le_t (by omega)),if_pos hc];rfl
  ·rw [cond_f (le_f (by omega)),if_neg hc];rfl
 rfl
def gl (s:SSequence):List Int:=if gnn s=2 then [fst s+1,fst s] else mods (fst s) (gnn s)
theorem gl_len (s:SSequence):(gl s).length=gnn s:=by
 unfold gl
 split
 ·rename_i h;rw [h];rfl
 ·simp [mods]
theorem m128_eq {s:SSequence} (h:Right s):m128 s=some (fst s):=by
 unfold m128;rw [fst_eq h.a1 h.a6]
theorem m71_eq {s:SSequence} (h:Right s):m71 s=some (gl s):=by
 have hf:=fst_le h.a1 h.a6
 have hn:=h.n64
 obtain ⟨f1,f2,f3,f4⟩:=div_facts h
 unfold m71 gl
 rw [m73_eq h,m128_eq h]
 simp only [Option.bind_some]
 rw [few_gn]
 by_cases h2:gnn s=2
 ·rw [cond_t (by simp [h2]),if_pos h2,addI_eq (by omega) (by omega)]
 ·rw [cond_f (by simp;omega),if_neg h2]
  rw [iter_fold (fun k:Nat=>((k:Int),mods (fst s) k)) (gnn s) ?hn (mods (fst s) (gnn s)) ?h0 ?h ?he]
  case hn=>unfold fuel;omega
  case h0=>simp [mods]
  case he=>
   try dsimp only
   rw [cond_f (lt_f (by omega))]
  case h=>
   intro k hk
   try dsimp only
   have hlm:(mods (fst s) k).length=k:=by simp [mods]
   rw [cond_t (lt_t (by omega)),appc_eq (by simp [hlm];omega) (by simp [hlm];omega)]
   simp only [Option.bind_some]
   rw [addI_nat (by omega),addI_eq (by omega) (by omega),mods_succ]
  rfl
def tc (s:SSequence):Int:=fst s+(gnn s:Int)
def pln (s:SSequence):SPlan:=⟨s,tms s (tc s) s.Steps.length⟩
theorem tc_nn {s:SSequence} (h:Right s):0≤tc s:=by
 have:=fst_le h.a1 h.a6;unfold tc;omega
theorem m74_eq {s:SSequence} (h:Right s):m74 s=some (pln s):=by
 have hf:=fst_le h.a1 h.a6
 have hn:=h.n64
 obtain ⟨f1,f2,f3,f4⟩:=div_facts h
 unfold m74
 rw [m128_eq h,m73_eq h]
 simp only [Option.bind_some]
 rw [few_gn,addI_eq (by omega) (by omega),m130_eq s _ hn (by omega) (by omega)];rfl
def bel (s:SSequence) (k:Nat):List Int:=(List.range k).map fun j=>(gl s).getD (grp s j) 0
theorem bel_len {s:SSequence} {k:Nat}:(bel s k).length=k:=by simp [bel]
theorem gl_idx {s:SSequence} {j:Nat} (hj:j < gnn s):idx (gl s) (j:Int)=some ((gl s).getD j 0):=by
 rw [idx_lt (by rw [gl_len];exact hj),←getD_lt (d:=0)]
theorem m108_eq {s:SSequence} (h:Right s):m108 s=some (bel s s.Steps.length):=by
 have hn:=h.n64
 unfold m108
 rw [iter_fold (fun k:Nat=>((k:Int),bel s k)) s.Steps.length ?hn (bel s s.Steps.length) ?h0 ?h ?he]
 case hn=>unfold fuel;omega
 case h0=>rfl
 case he=>
  try dsimp only
  rw [cond_f (lt_f (by omega))]
 case h=>
  intro k hk
  try dsimp only
  have hl:=bel_len (s:=s) (k:=k)
  rw [cond_t (lt_t (by omega)),m71_eq h,m73_eq h]
  simp only [Option.bind_some]
  rw [m178_eq h k]
  simp only [Option.bind_some]
  rw [gl_idx (grp_lt h k)]
  simp only [Option.bind_some]
  rw [appc_eq (by simp [hl];omega) (by simp [hl];omega),addI_nat (by omega)]
  simp [bel,List.range_succ]
 rfl
end G33
end
