/- Parts of my machine and its laws, joined: G33g AmP1 AmP2 P32c. No condition. -/
import Derived.Test.YtafgdbaekppjcaaGreatDoorG33D
import Derived.Test.YtafgdbaekppjcaaGreatDoorRows
import Derived.ProofKit
import Derived.LaidMore
import Derived.OpenShut
import Derived.MakeChecks
import Derived.Test.YtafgdbaekppjcaaGreatDoorAmP0
import Derived.Test.YtafgdbaekppjcaaGreatDoorG33M
set_option linter.unusedSectionVars false
set_option linter.unusedVariables false
set_option linter.unusedSimpArgs false
section
namespace G33
open Go.Proofs Go Go.Pl Go.Am Go.Am.As Go.ChangeShapes Go.WideShapes Go.ChangeAt Go.WideMaps Go.WideElems Go.RowKit
set_option maxRecDepth 100000
theorem gBits:Tryz.prog.globalNamed "pneumatic/group.bits" =some 0:=by kernel_rfl
theorem tBits:(Tryz.prog.globals[0]?).map (·.type)=some 294:=by kernel_rfl
abbrev laidB {H:Type}:List (String×DataW H):=[("math/bits.deBruijn32tab",YtafgdbaekppjcaaGreatDoor.Rows.laid_math_bits_deBruijn32tab),("math/bits.deBruijn64tab",YtafgdbaekppjcaaGreatDoor.Rows.laid_math_bits_deBruijn64tab),("internal/strconv.uint64pow10",YtafgdbaekppjcaaGreatDoor.Rows.laid_internal_strconv_uint64pow10),("pneumatic/group.bits",YtafgdbaekppjcaaGreatDoor.Rows.laid_pneumatic_group_bits)]
theorem cells_of {W:World} (h:laidMetH Tryz.prog laidB W):∀ j (hj:j < 6),W.cell? ⟨0,j,none⟩=some (.int .u64 (([1,2,4,8,16,32]:List Int)[j])):=by
 rw [MakeChecks.laidMetH_plain _ _ _ (by kernel_rfl)] at h
 obtain ⟨ps,hL,_⟩:=h
 obtain ⟨_,_,_,_,_,_,_,_,_,_,hL,_⟩:=hL
 obtain ⟨_,_,_,_,_,_,_,_,_,_,hL,_⟩:=hL
 obtain ⟨_,_,_,_,_,_,_,_,_,_,hL,_⟩:=hL
 obtain ⟨g0,t0,cs0,f0,p0,q0,hg0,ht0,hv0,hd0,_,_⟩:=hL
 obtain rfl:=Option.some.inj (gBits.symm.trans hg0)
 obtain rfl:=Option.some.inj (tBits.symm.trans ht0)
 obtain ⟨xs,m1,q1,hx1,hlen,hn3,hel⟩:=DataW.trod_array Tryz.underlying294 hd0
 have c64:Tryz.prog.cellsOf 244=1:=by kernel_rfl
 intro j hj
 have h0:=hel j hj
 rw [c64,Nat.mul_one] at h0
 have hjx:j < xs.length:=by rw [hn3];exact hj
 rw [List.getElem?_eq_getElem hjx] at h0
 obtain ⟨n,e1,e2,_⟩:=DataW.trod_int Tryz.underlying244 h0
 have hd:(xs.map (·.1))[j]?=some (.lit (.int .u64 (([1,2,4,8,16,32]:List Int)[j]))):=by
  simp only [Prod.mk.injEq] at hx1
  have h1:=hx1.1
  unfold YtafgdbaekppjcaaGreatDoor.Rows.laid_pneumatic_group_bits at h1
  injection h1 with h1
  rw [←h1]
  have:j=0∨j=1∨j=2∨j=3∨j=4∨j=5:=by omega
  rcases this with rfl | rfl | rfl | rfl | rfl | rfl<;>rfl
 rw [List.getElem?_map,List.getElem?_eq_getElem hjx,Option.map_some,e2] at hd
 simp only [Option.some.injEq,DataW.lit.injEq,Lit.int.injEq,true_and] at hd
 rw [World.var?_cell hg0 hv0 j]
 have e3:cs0.toList[j]?=some (.int .u64 n):=by
  have:=congrArg (fun l=>l[0]?) e1
  simp only [List.getElem?_take,List.getElem?_drop] at this
  simpa using this
 rw [←hd]
 simpa using e3
theorem glob_of {W:World} (h:laidMetH Tryz.prog laidB W) (c:Ctx) (hw:c.w=W) (hO:∀ b,¬ c.O b):Glob c E0.glob:=by
 intro g
 show V c (.pro (if g=0 then _ else _)) _
 split
 ·rename_i e
  subst e
  refine .pro _ _ (fun j=> .int .u64 (([1,2,4,8,16,32]:List Int).getD j 0)) (fun j hj=>?_) (fun _=>⟨rfl,hO _⟩) (fun j hj=>?_) (fun j hj=>?_)
  ·have hj':j < 6:=by simpa using hj
   have:j=0∨j=1∨j=2∨j=3∨j=4∨j=5:=by omega
   rcases this with rfl | rfl | rfl | rfl | rfl | rfl<;>rfl
  ·have hj':j < 6:=by simpa using hj
   have:=cells_of h j hj'
   rw [hw]
   simp only [Nat.zero_add]
   rw [this]
   have:j=0∨j=1∨j=2∨j=3∨j=4∨j=5:=by omega
   rcases this with rfl | rfl | rfl | rfl | rfl | rfl<;>rfl
  ·have hj':j < 6:=by simpa using hj
   have:j=0∨j=1∨j=2∨j=3∨j=4∨j=5:=by omega
   rcases this with rfl | rfl | rfl | rfl | rfl | rfl<;>exact .int _ _
 ·exact .pro [] _ (fun _=>undef) (fun j hj=>by simp at hj) (fun h=>absurd rfl h) (fun j hj=>by simp at hj) (fun j hj=>by simp at hj)
end G33
end
section
namespace Go.Pl
theorem wrap_i64 {n:Int} (h0: -9223372036854775808≤n) (h1:n < 9223372036854775808):IntKind.i64.wrap n=n:=by
 unfold IntKind.wrap
 have e1:(2:Int) ^ IntKind.i64.bits=18446744073709551616:=by decide
 have e2:(2:Int) ^ (IntKind.i64.bits - 1)=9223372036854775808:=by decide
 simp only [e1,e2,IntKind.signed,Bool.true_and,decide_eq_true_eq]
 split<;>omega
theorem addI_eq {x y:Int} (h0: -9223372036854775808≤x+y) (h1:x+y < 9223372036854775808):addI .i64 x y=x+y:=wrap_i64 h0 h1
theorem subI_eq {x y:Int} (h0: -9223372036854775808≤x - y) (h1:x - y < 9223372036854775808):subI .i64 x y=x - y:=wrap_i64 h0 h1
theorem mulI_eq {x y:Int} (h0: -9223372036854775808≤x*y) (h1:x*y < 9223372036854775808):mulI .i64 x y=x*y:=wrap_i64 h0 h1
theorem addI_nat {k:Nat} (h:k < 9223372036854775807):addI .i64 (k:Int) 1=((k+1:Nat):Int):=by rw [addI_eq (by omega) (by omega)];rfl
theorem idx_nat {α:Type} (l:List α) (k:Nat):idx l (k:Int)=l[k]?:=by simp [idx]
theorem idx_lt {α:Type} {l:List α} {k:Nat} (h:k < l.length):idx l (k:Int)=some l[k]:=by simp [idx_nat,h]
theorem idx_int {α:Type} {l:List α} {i:Int} (h0:0≤i) (h1:i < l.length):∃ h:i.toNat < l.length,idx l i=some l[i.toNat]:=by
 refine ⟨by omega,?_⟩
 unfold idx
 rw [if_pos h0,List.getElem?_eq_getElem (by omega)]
theorem appc_eq {α:Type} {bytes:Nat} {l m:List α} (h:(l.length+m.length)*bytes≤1099511627776) (h2:l.length+m.length≤1099511627776):appc bytes l m=some (l++m):=by
 unfold appc;rw [if_pos ⟨h,h2⟩]
theorem iter_cnt {ρ:Type} {body:Int→Option (Int⊕ρ)} (n:Nat) (hn:n < fuel) (P:Nat→Prop) (Q:ρ→Prop) (h0:P 0)
 (h:∀ k:Nat,k≤n→P k→(k < n∧body k=some (.inl ((k+1:Nat):Int))∧P (k+1))∨∃ r,body k=some (.inr r)∧Q r):∃ r,iter body 0=some r∧Q r:=by
 refine iter_rule (fun s:Int=>∃ k:Nat,s=(k:Int)∧k≤n∧P k) (fun s:Int=>n - s.toNat) Q ⟨0,rfl,Nat.zero_le _,h0⟩ (by simp;exact hn) ?_
 rintro s ⟨k,rfl,hk,hp⟩
 rcases h k hk hp with ⟨h1,h2,h3⟩ | ⟨r,h1,h2⟩
 ·exact .inl ⟨_,h2,⟨k+1,rfl,h1,h3⟩,by simp;omega⟩
 ·exact .inr ⟨r,h1,h2⟩
theorem cond_t {α:Type} {c:Bool} {a b:α} (h:c=true):(bif c then a else b)=a:=by rw [h];rfl
theorem cond_f {α:Type} {c:Bool} {a b:α} (h:c=false):(bif c then a else b)=b:=by rw [h];rfl
theorem lt_t {a b:Int} (h:a < b):decide (a < b)=true:=by simpa using h
theorem lt_f {a b:Int} (h:¬ a < b):decide (a < b)=false:=by simpa using h
theorem bind_val {α β:Type} {m:Option α} {f:α→Option β} {v:α} (h:m=some v):m.bind f=f v:=by rw [h];rfl
end Go.Pl
end
section
namespace Go.Pl
def first {ρ:Type} (n:Nat) (g:Nat→Option ρ):Option ρ:=(List.range n).findSome? g
theorem first_none {ρ:Type} {n:Nat} {g:Nat→Option ρ} (h:∀ k,k < n→g k=none):first n g=none:=by
 unfold first
 rw [List.findSome?_eq_none_iff]
 intro k hk
 exact h k (List.mem_range.1 hk)
theorem first_none_iff {ρ:Type} {n:Nat} {g:Nat→Option ρ}:first n g=none↔∀ k,k < n→g k=none:=by
 unfold first
 rw [List.findSome?_eq_none_iff]
 exact ⟨fun h k hk=>h k (List.mem_range.2 hk),fun h k hk=>h k (List.mem_range.1 hk)⟩
theorem first_some {ρ:Type} {n:Nat} {g:Nat→Option ρ} {k:Nat} {r:ρ} (hk:k < n) (h:∀ j,j < k→g j=none) (hr:g k=some r):first n g=some r:=by
 unfold first
 have e:List.range n=List.range k++(k::(List.range' (k+1) (n - (k+1)))):=by
  have h1:=List.range'_append_1 (s:=0) (m:=k) (n:=n - (k+1)+1)
  rw [Nat.zero_add] at h1
  rw [List.range_eq_range',List.range_eq_range',←List.range'_succ,h1]
  congr 1;omega
 rw [e,List.findSome?_append]
 have:(List.range k).findSome? g=none:=by
  rw [List.findSome?_eq_none_iff]
  intro j hj
  exact h j (List.mem_range.1 hj)
 rw [this]
 simp [hr]
theorem iter_first {σ α ρ:Type} {body:σ→Option (σ⊕(α⊕ρ))} {s0:σ} (st:Nat→σ) (g:Nat→Option ρ) (n:Nat) (hn:n < fuel) (u:α) (h0:s0=st 0)
 (h:∀ k,k < n→(∀ j,j < k→g j=none)→body (st k)=some (match g k with | none=> .inl (st (k+1)) | some r=> .inr (.inr r)))
 (he:(∀ j,j < n→g j=none)→body (st n)=some (.inr (.inl u))):iter body s0=some (match first n g with | none=> .inl u | some r=> .inr r):=by
 subst h0
 have key:∀ m k,k≤n→n - k < m→(∀ j,j < k→g j=none)→iterN body m (st k)=some (match first n g with | none=> .inl u | some r=> .inr r):=by
  intro m
  induction m with
  | zero=>intro k _ hlt;omega
  | succ m ih=>
   intro k hk hm hj
   rw [iterN]
   by_cases hkn:k < n
   ·rw [h k hkn hj]
    cases hg:g k with
    | none=>
     exact ih (k+1) hkn (by omega) (fun j hj'=>by
      rcases Nat.lt_or_ge j k with e | e
      ·exact hj j e
      ·have:j=k:=by omega
       subst this;exact hg)
    | some r=>simp only [first_some hkn hj hg]
   ·have:k=n:=by omega
    subst this
    rw [he hj,first_none hj]
 exact key fuel 0 (Nat.zero_le _) (by omega) (fun j hj=>by omega)
theorem iter_fold {σ ρ:Type} {body:σ→Option (σ⊕ρ)} {s0:σ} (st:Nat→σ) (n:Nat) (hn:n < fuel) (r:ρ) (h0:s0=st 0)
 (h:∀ k,k < n→body (st k)=some (.inl (st (k+1)))) (he:body (st n)=some (.inr r)):iter body s0=some r:=by
 subst h0
 have key:∀ m k,k≤n→n - k < m→iterN body m (st k)=some r:=by
  intro m
  induction m with
  | zero=>intro k _ hlt;omega
  | succ m ih=>
   intro k hk hm
   rw [iterN]
   by_cases hkn:k < n
   ·rw [h k hkn]
    exact ih (k+1) hkn (by omega)
   ·have:k=n:=by omega
    subst this
    rw [he]
 exact key fuel 0 (Nat.zero_le _) (by omega)
theorem first_list {α ρ:Type} (f:α→Option ρ):∀ l:List α,first l.length (fun k=>l[k]?.bind f)=l.findSome? f
 | []=>rfl
 | x::l=>by
  have ih:=first_list f l
  unfold first at ih ⊢
  rw [List.length_cons,List.range_succ_eq_map,List.findSome?_cons,List.findSome?_cons,List.findSome?_map,←ih]
  rfl
theorem iter_list {α β ρ:Type} {body:Int→Option (Int⊕(β⊕ρ))} {s0:Int} (l:List α) (f:α→Option ρ) (hn:l.length < fuel) (u:β) (h0:s0=0)
 (h:∀ (k:Nat) (hk:k < l.length),body (k:Int)=some (match f l[k] with | none=> .inl ((k+1:Nat):Int) | some r=> .inr (.inr r)))
 (he:body (l.length:Int)=some (.inr (.inl u))):iter body s0=some (match l.findSome? f with | none=> .inl u | some r=> .inr r):=by
 rw [iter_first (fun k:Nat=>(k:Int)) (fun k=>l[k]?.bind f) l.length hn u (by rw [h0];rfl) (fun k hk _=>by
  have e:l[k]?.bind f=f l[k]:=by rw [List.getElem?_eq_getElem hk];rfl
  rw [e];exact h k hk) (fun _=>he),first_list]
theorem findSome_if {α ρ:Type} (p:α→Bool) (r:ρ):∀ l:List α,l.findSome? (fun x=>bif p x then some r else none)=bif l.any p then some r else none
 | []=>rfl
 | x::l=>by
  rw [List.findSome?_cons,findSome_if p r l,List.any_cons]
  cases p x<;>rfl
theorem wrap_u64 {n:Int} (h0:0≤n) (h1:n < 18446744073709551616):IntKind.u64.wrap n=n:=by
 unfold IntKind.wrap
 have e1:(2:Int) ^ IntKind.u64.bits=18446744073709551616:=by decide
 simp only [e1,IntKind.signed,Bool.false_and,Bool.false_eq_true,if_false]
 omega
theorem orI_nat {a b:Nat} (ha:a < 18446744073709551616) (hb:b < 18446744073709551616):orI .u64 (a:Int) (b:Int)=((a||| b:Nat):Int):=by
 have hc:a||| b < 18446744073709551616:=Nat.or_lt_two_pow (n:=64) ha hb
 have e:((BitVec.ofInt IntKind.u64.bits (a:Int))||| (BitVec.ofInt IntKind.u64.bits (b:Int))).toNat=a||| b:=by
  have e64:IntKind.u64.bits=64:=rfl
  rw [BitVec.ofInt_natCast,BitVec.ofInt_natCast,BitVec.toNat_or,BitVec.toNat_ofNat,BitVec.toNat_ofNat,e64,Nat.mod_eq_of_lt ha,Nat.mod_eq_of_lt hb]
 unfold orI
 rw [e]
 exact wrap_u64 (by omega) (by omega)
theorem andI_nat {a b:Nat} (ha:a < 18446744073709551616) (hb:b < 18446744073709551616):andI .u64 (a:Int) (b:Int)=((a&&& b:Nat):Int):=by
 have hc:a&&& b < 18446744073709551616:=Nat.and_lt_two_pow (n:=64) _ hb
 have e:((BitVec.ofInt IntKind.u64.bits (a:Int))&&& (BitVec.ofInt IntKind.u64.bits (b:Int))).toNat=a&&& b:=by
  have e64:IntKind.u64.bits=64:=rfl
  rw [BitVec.ofInt_natCast,BitVec.ofInt_natCast,BitVec.toNat_and,BitVec.toNat_ofNat,BitVec.toNat_ofNat,e64,Nat.mod_eq_of_lt ha,Nat.mod_eq_of_lt hb]
 unfold andI
 rw [e]
 exact wrap_u64 (by omega) (by omega)
end Go.Pl
end
section
namespace G33
open Go Go.Pl
theorem or_b (a b:Bool):(bif a then some true else some b)=some (a||b):=by cases a<;>rfl
theorem and_b (a b:Bool):(bif a then some b else some false)=some (a&&b):=by cases a<;>rfl
theorem sub_nat {k:Nat} (h:0 < k) (h2:k < 9223372036854775807):subI .i64 (k:Int) 1=((k - 1:Nat):Int):=by rw [subI_eq (by omega) (by omega)];omega
def stepG (l:List SStroke) (k:Nat):Option Int:=
 match l[k]? with
 | none=>none
 | some x=>if ¬(0≤x.Actuator∧x.Actuator < 6) then some 2 else if k=0 then none else match l[k - 1]? with
  | none=>none
  | some y=>if x.Actuator=y.Actuator then some 7 else if x.Actuator < y.Actuator then some 9 else none
def stepE (x:SStep):Int:=if x.Strokes.length=0 then 13 else if 6 < x.Strokes.length then 5 else
 match first x.Strokes.length (stepG x.Strokes) with | some r=>r | none=>if 0≤x.Wait∧x.Wait≤1000000 then 0 else 2
theorem m154_eq (x:SStep):m154 x=some (stepE x):=by
 unfold m154 stepE
 by_cases h1:x.Strokes.length=0
 ·rw [cond_t (by simpa using h1),if_pos h1]
 rw [cond_f (by simpa using h1),if_neg h1]
 by_cases h2:6 < x.Strokes.length
 ·rw [cond_t (by simp;omega),if_pos h2]
 rw [cond_f (by simp;omega),if_neg h2]
 rw [iter_first (fun k:Nat=>(k:Int)) (stepG x.Strokes) x.Strokes.length ?hn () ?h0 ?h ?he]
 case hn=>unfold fuel;omega
 case h0=>rfl
 case he=>
  intro _
  try dsimp only
  rw [cond_f (lt_f (by omega))]
 case h=>
  intro k hk _
  try dsimp only
  rw [cond_t (lt_t (by omega)),idx_lt hk]
  simp only [Option.bind_some,m221,and_b]
  unfold stepG
  rw [List.getElem?_eq_getElem hk]
  dsimp only
  by_cases hA:0≤x.Strokes[k].Actuator∧x.Strokes[k].Actuator < 6
  ·rw [if_neg (by simpa using hA),cond_f (by simp [hA])]
   by_cases hk0:k=0
   ·subst hk0
    simp;rfl
   ·rw [if_neg hk0,sub_nat (by omega) (by omega),idx_lt (show k - 1 < x.Strokes.length by omega),List.getElem?_eq_getElem (show k - 1 < x.Strokes.length by omega)]
    have hk1:decide ((k:Int) > 0)=true:=by simp;omega
    simp only [hk1,cond_true,Option.bind_some]
    by_cases h3:x.Strokes[k].Actuator=x.Strokes[k - 1].Actuator
    ·simp [h3]
    ·by_cases h4:x.Strokes[k].Actuator < x.Strokes[k - 1].Actuator
     ·rw [if_neg h3,if_pos h4,cond_f (by simpa using h3),cond_t (lt_t h4)]
     ·rw [if_neg h3,if_neg h4,cond_f (by simpa using h3),cond_f (lt_f h4),addI_nat (by omega)]
  ·rw [if_pos (by simpa using hA),cond_t]
   simp only [Bool.not_eq_true',Bool.and_eq_false_iff,decide_eq_false_iff_not]
   omega
 cases first x.Strokes.length (stepG x.Strokes) with
 | some r=>rfl
 | none=>
  simp only [Option.bind_some,Sum.elim_inl,m222,and_b]
  by_cases hw:0≤x.Wait∧x.Wait≤1000000
  ·rw [if_pos hw,cond_f (by simp [hw])]
  ·rw [if_neg hw,cond_t]
   simp only [Bool.not_eq_true',Bool.and_eq_false_iff,decide_eq_false_iff_not]
   omega
theorem m212_eq (x:SStep):m212 x=some (stepE x):=by
 unfold m212 stepE
 by_cases h1:x.Strokes.length=0
 ·rw [cond_t (by simpa using h1),if_pos h1]
 rw [cond_f (by simpa using h1),if_neg h1]
 by_cases h2:6 < x.Strokes.length
 ·rw [cond_t (by simp;omega),if_pos h2]
 rw [cond_f (by simp;omega),if_neg h2]
 rw [iter_first (fun k:Nat=>((if h:0 < k∧k - 1 < x.Strokes.length then x.Strokes[k - 1].Actuator else -1),(k:Int))) (stepG x.Strokes) x.Strokes.length ?hn () ?h0 ?h ?he]
 case hn=>unfold fuel;omega
 case h0=>rfl
 case he=>
  intro _
  try dsimp only
  rw [cond_f (lt_f (by omega))]
 case h=>
  intro k hk _
  try dsimp only
  rw [cond_t (lt_t (by omega)),idx_lt hk]
  simp only [Option.bind_some,m250,and_b]
  unfold stepG
  rw [List.getElem?_eq_getElem hk]
  dsimp only
  have hnext:∀ h,(if h:0 < k+1∧k+1 - 1 < x.Strokes.length then x.Strokes[k+1 - 1].Actuator else -1)=(x.Strokes[k]'h).Actuator:=by
   intro h;rw [dif_pos ⟨by omega,by omega⟩];rfl
  by_cases hA:0≤x.Strokes[k].Actuator∧x.Strokes[k].Actuator < 6
  ·rw [if_neg (by simpa using hA),cond_f (by simp [hA])]
   by_cases hk0:k=0
   ·subst hk0
    rw [if_pos rfl,dif_neg (by omega),cond_f (by simp;omega),cond_f (by simp;omega),hnext hk,addI_nat (by omega)]
   ·rw [if_neg hk0,dif_pos ⟨by omega,by omega⟩,List.getElem?_eq_getElem (show k - 1 < x.Strokes.length by omega)]
    dsimp only
    by_cases h3:x.Strokes[k].Actuator=x.Strokes[k - 1].Actuator
    ·simp [h3]
    ·by_cases h4:x.Strokes[k].Actuator < x.Strokes[k - 1].Actuator
     ·rw [if_neg h3,if_pos h4,cond_f (by simpa using h3),cond_t (lt_t h4)]
     ·rw [if_neg h3,if_neg h4,cond_f (by simpa using h3),cond_f (lt_f h4),hnext hk,addI_nat (by omega)]
  ·rw [if_pos (by simpa using hA),cond_t]
   simp only [Bool.not_eq_true',Bool.and_eq_false_iff,decide_eq_false_iff_not]
   omega
 cases first x.Strokes.length (stepG x.Strokes) with
 | some r=>rfl
 | none=>
  simp only [Option.bind_some,Sum.elim_inl,or_b]
  by_cases hw:0≤x.Wait∧x.Wait≤1000000
  ·rw [if_pos hw,cond_f (by simp;omega)]
  ·rw [if_neg hw,cond_t (by simp;omega)]
structure StepOk (x:SStep):Prop where
 pos:0 < x.Strokes.length
 le:x.Strokes.length≤6
 act:∀ k (h:k < x.Strokes.length),0≤x.Strokes[k].Actuator∧x.Strokes[k].Actuator < 6
 inc:∀ k (h:k+1 < x.Strokes.length),x.Strokes[k].Actuator < x.Strokes[k+1].Actuator
 wait:0≤x.Wait∧x.Wait≤1000000
theorem stepE_ok {x:SStep} (h:stepE x=0):StepOk x:=by
 unfold stepE at h
 split at h
 ·omega
 split at h
 ·omega
 rename_i h1 h2
 split at h
 ·rename_i r hr
  exfalso
  unfold first at hr
  obtain ⟨k,_,hk⟩:=List.exists_of_findSome?_eq_some hr
  subst h
  unfold stepG at hk
  split at hk
  ·simp at hk
  ·split at hk
   ·simp at hk
   ·split at hk
    ·simp at hk
    ·split at hk
     ·simp at hk
     ·split at hk
      ·simp at hk
      ·split at hk<;>simp at hk
 ·rename_i hr
  rw [first_none_iff] at hr
  have ha:∀ k (h:k < x.Strokes.length),0≤x.Strokes[k].Actuator∧x.Strokes[k].Actuator < 6:=by
   intro k hk
   have:=hr k hk
   unfold stepG at this
   rw [List.getElem?_eq_getElem hk] at this
   dsimp only at this
   refine Classical.byContradiction fun hc=>?_
   rw [if_pos hc] at this
   simp at this
  refine ⟨by omega,by omega,ha,fun k hk=>?_,?_⟩
  ·have:=hr (k+1) hk
   unfold stepG at this
   rw [List.getElem?_eq_getElem hk,Nat.add_sub_cancel,List.getElem?_eq_getElem (show k < x.Strokes.length by omega)] at this
   dsimp only at this
   rw [if_neg (by simpa using ha (k+1) hk),if_neg (by omega)] at this
   by_cases e:x.Strokes[k+1].Actuator=x.Strokes[k].Actuator
   ·rw [if_pos e] at this;simp at this
   ·rw [if_neg e] at this
    by_cases e2:x.Strokes[k+1].Actuator < x.Strokes[k].Actuator
    ·rw [if_pos e2] at this;simp at this
    ·omega
  ·by_cases hw:0≤x.Wait∧x.Wait≤1000000
   ·exact hw
   ·rw [if_neg hw] at h;omega
def upd (l:List SStroke) (e:Nat→Bool):Nat→Bool:=l.foldl (fun e y=>fun a=>if y.Actuator=(a:Int) then y.Out else e a) e
theorem upd_take {l:List SStroke} {k:Nat} (h:k < l.length) (e:Nat→Bool):upd (l.take (k+1)) e=fun a:Nat=>if l[k].Actuator=(a:Int) then l[k].Out else upd (l.take k) e a:=by
 unfold upd
 rw [List.take_add_one,List.getElem?_eq_getElem h,List.foldl_append]
 rfl
theorem map_set (n:Nat) (e:Nat→Bool) (a:Int) (v:Bool) (h0:0≤a):((List.range n).map e).set a.toNat v=(List.range n).map (fun b:Nat=>if a=(b:Int) then v else e b):=by
 apply List.ext_getElem
 ·simp
 ·intro i h1 h2
  simp at h1
  simp only [List.getElem_set,List.getElem_map,List.getElem_range]
  by_cases hi:a.toNat=i
  ·rw [if_pos hi,if_pos (by omega)]
  ·rw [if_neg hi,if_neg (by omega)]
theorem m156_eq (x:SStep) (n:Nat) (hn:n≤6) (e:Nat→Bool) (hx:x.Strokes.length≤6) (ha:∀ k (h:k < x.Strokes.length),0≤x.Strokes[k].Actuator∧x.Strokes[k].Actuator < n):
 m156 x ((List.range n).map e)=some ((List.range n).map (upd x.Strokes e)):=by
 unfold m156
 rw [appc_eq (by simp;omega) (by simp;omega)]
 simp only [Option.bind_some,List.nil_append]
 rw [iter_fold (fun k:Nat=>((k:Int),(List.range n).map (upd (x.Strokes.take k) e))) x.Strokes.length ?hn ((List.range n).map (upd x.Strokes e)) ?h0 ?h ?he]
 case hn=>unfold fuel;omega
 case h0=>rfl
 case he=>
  try dsimp only
  rw [cond_f (lt_f (by omega)),List.take_of_length_le (Nat.le_refl _)]
 case h=>
  intro k hk
  try dsimp only
  obtain ⟨h1,h2⟩:=ha k hk
  rw [cond_t (lt_t (by omega)),idx_lt hk]
  simp only [Option.bind_some]
  obtain ⟨h3,h4⟩:=idx_int (l:=(List.range n).map (upd (x.Strokes.take k) e)) h1 (by simpa using h2)
  rw [h4]
  simp only [Option.bind_some]
  rw [map_set _ _ _ _ h1,addI_nat (by omega),upd_take hk]
 rfl
def arrOf (e:Nat→Bool):Arr 6 Bool:=⟨(List.range 6).map e,by simp⟩
theorem arrOf_put (e:Nat→Bool) (a:Int) (v:Bool) (h:0≤a):(arrOf e).put a.toNat v=arrOf (fun b:Nat=>if a=(b:Int) then v else e b):=Subtype.ext (map_set 6 e a v h)
theorem arrOf_idx (e:Nat→Bool) {a:Int} (h:0≤a) (h2:a < 6):aidx (arrOf e) a=some (e a.toNat):=by
 unfold aidx idx
 rw [if_pos h]
 have:a.toNat < 6:=by omega
 simp [arrOf,this]
theorem m140_eq (x:SStep) (e:Nat→Bool) (hx:x.Strokes.length≤6) (ha:∀ k (h:k < x.Strokes.length),0≤x.Strokes[k].Actuator∧x.Strokes[k].Actuator < 6):
 m140 (arrOf e) x=some (arrOf (upd x.Strokes e)):=by
 unfold m140
 rw [iter_fold (fun k:Nat=>((k:Int),arrOf (upd (x.Strokes.take k) e),Arr.rep 6 false)) x.Strokes.length ?hn (arrOf (upd x.Strokes e),Arr.rep 6 false) ?h0 ?h ?he]
 case hn=>unfold fuel;omega
 case h0=>rfl
 case he=>
  try dsimp only
  rw [cond_f (lt_f (by omega)),List.take_of_length_le (Nat.le_refl _)]
 case h=>
  intro k hk
  try dsimp only
  obtain ⟨h1,h2⟩:=ha k hk
  rw [cond_t (lt_t (by omega)),idx_lt hk]
  simp only [Option.bind_some]
  rw [arrOf_idx _ h1 h2]
  simp only [Option.bind_some]
  rw [arrOf_put _ _ _ h1,addI_nat (by omega),upd_take hk]
 rfl
def clash (x:SStep) (e:Nat→Bool):Bool:=x.Strokes.any fun y=>e y.Actuator.toNat==y.Out
theorem m155_eq (x:SStep) (n:Nat) (hn:n≤6) (e:Nat→Bool) (hx:x.Strokes.length≤6) (ha:∀ k (h:k < x.Strokes.length),0≤x.Strokes[k].Actuator∧x.Strokes[k].Actuator < n):
 m155 x ((List.range n).map e)=some (!clash x e):=by
 unfold m155
 rw [iter_list x.Strokes (fun y=>bif e y.Actuator.toNat==y.Out then some false else none) ?hn () ?h0 ?h ?he]
 case hn=>unfold fuel;omega
 case h0=>rfl
 case he=>
  try dsimp only
  rw [cond_f (lt_f (by omega))]
 case h=>
  intro k hk
  try dsimp only
  obtain ⟨h1,h2⟩:=ha k hk
  rw [cond_t (lt_t (by omega)),idx_lt hk]
  simp only [Option.bind_some]
  obtain ⟨h3,h4⟩:=idx_int (l:=(List.range n).map e) h1 (by simpa using h2)
  rw [cond_f (by simp;omega),h4]
  simp only [Option.bind_some,List.getElem_map,List.getElem_range]
  rw [addI_nat (by omega)]
  cases e x.Strokes[k].Actuator.toNat==x.Strokes[k].Out<;>rfl
 rw [findSome_if]
 unfold clash
 cases x.Strokes.any fun y=>e y.Actuator.toNat==y.Out<;>rfl
def far (s:SSequence) (x:SStep):Bool:=x.Strokes.any fun y=>decide (y.Actuator≥s.Actuators)
theorem far_f {s:SSequence} {x:SStep} (h:far s x=false):∀ k (h:k < x.Strokes.length),x.Strokes[k].Actuator < s.Actuators:=by
 intro k hk
 unfold far at h
 rw [List.any_eq_false] at h
 have:=h x.Strokes[k] (List.getElem_mem hk)
 simp at this;omega
def stE (s:SSequence) (x:SStep) (e:Nat→Bool):Int:=if stepE x≠0 then stepE x else if far s x=true then 6 else if clash x e=true then 14 else 0
theorem iter_list1 {α β ρ γ:Type} {body:Int×γ→Option ((Int×γ)⊕(β⊕ρ))} {w:γ} {s0:Int×γ} (l:List α) (f:α→Option ρ) (hn:l.length < fuel) (u:β) (h0:s0=(0,w))
 (h:∀ (k:Nat) (hk:k < l.length),body ((k:Int),w)=some (match f l[k] with | none=> .inl (((k+1:Nat):Int),w) | some r=> .inr (.inr r)))
 (he:body ((l.length:Int),w)=some (.inr (.inl u))):iter body s0=some (match l.findSome? f with | none=> .inl u | some r=> .inr r):=by
 rw [iter_first (fun k:Nat=>((k:Int),w)) (fun k=>l[k]?.bind f) l.length hn u (by rw [h0];rfl) (fun k hk _=>by
  have e:l[k]?.bind f=f l[k]:=by rw [List.getElem?_eq_getElem hk];rfl
  rw [e];exact h k hk) (fun _=>he),first_list]
 try (cases l.findSome? f<;>rfl)
theorem m139_eq (s:SSequence) (x:SStep) (e:Nat→Bool):m139 s x (arrOf e)=some (stE s x e):=by
 unfold m139 stE
 rw [m212_eq]
 simp only [Option.bind_some]
 by_cases h0:stepE x=0
 ·have ho:=stepE_ok h0
  rw [cond_f (by simpa using h0),if_neg (by simpa using h0)]
  have hlen:=ho.le
  rw [iter_list1 (w:=arrOf e) x.Strokes (fun y=>bif decide (y.Actuator≥s.Actuators) then some 6 else none) ?hn (arrOf e) ?h0 ?h ?he]
  case hn=>unfold fuel;omega
  case h0=>rfl
  case he=>
   try dsimp only
   rw [cond_f (lt_f (by omega))]
  case h=>
   intro k hk
   try dsimp only
   rw [cond_t (lt_t (by omega)),idx_lt hk]
   simp only [Option.bind_some]
   rw [addI_nat (by omega)]
   cases decide (x.Strokes[k].Actuator≥s.Actuators)<;>rfl
  rw [findSome_if]
  unfold far
  cases hf:x.Strokes.any fun y=>decide (y.Actuator≥s.Actuators) with
  | true=>rfl
  | false=>
   simp only [cond_false,Option.bind_some,Sum.elim_inl,Bool.false_eq_true,if_false]
   rw [iter_list1 (w:=arrOf e) x.Strokes (fun y=>bif e y.Actuator.toNat==y.Out then some 14 else none) ?hn (arrOf e) ?h0 ?h ?he]
   case hn=>unfold fuel;omega
   case h0=>rfl
   case he=>
    try dsimp only
    rw [cond_f (lt_f (by omega))]
   case h=>
    intro k hk
    try dsimp only
    obtain ⟨h1,h2⟩:=ho.act k hk
    rw [cond_t (lt_t (by omega)),idx_lt hk]
    simp only [Option.bind_some]
    rw [arrOf_idx _ h1 h2,addI_nat (by omega)]
    simp only [Option.bind_some]
    cases e x.Strokes[k].Actuator.toNat==x.Strokes[k].Out<;>rfl
   rw [findSome_if]
   unfold clash
   cases x.Strokes.any fun y=>e y.Actuator.toNat==y.Out<;>rfl
 ·rw [cond_t (by simpa using h0),if_pos h0]
def ends (s:SSequence) (k:Nat):Nat→Bool:=(s.Steps.take k).foldl (fun e x=>upd x.Strokes e) (fun _=>false)
theorem ends_succ {s:SSequence} {k:Nat} (h:k < s.Steps.length):ends s (k+1)=upd s.Steps[k].Strokes (ends s k):=by
 unfold ends
 rw [List.take_add_one,List.getElem?_eq_getElem h,List.foldl_append]
 rfl
def mvs (l:List SStroke) (e:Nat→Bool):Nat→Bool:=l.foldl (fun e y=>fun a=>if y.Actuator=(a:Int) then true else e a) e
def moved (s:SSequence) (k:Nat):Nat→Bool:=(s.Steps.take k).foldl (fun e x=>mvs x.Strokes e) (fun _=>false)
theorem moved_succ {s:SSequence} {k:Nat} (h:k < s.Steps.length):moved s (k+1)=mvs s.Steps[k].Strokes (moved s k):=by
 unfold moved
 rw [List.take_add_one,List.getElem?_eq_getElem h,List.foldl_append]
 rfl
def seqG (s:SSequence) (k:Nat):Option Int:=match s.Steps[k]? with
 | none=>none
 | some x=>if stE s x (ends s k)≠0 then some (stE s x (ends s k)) else none
theorem seqG_some {s:SSequence} {k:Nat} {r:Int} (hk:k < s.Steps.length) (h:stE s s.Steps[k] (ends s k)=r) (hr:r≠0):seqG s k=some r:=by
 unfold seqG
 rw [List.getElem?_eq_getElem hk]
 dsimp only
 rw [h,if_pos hr]
theorem seqG_zero {s:SSequence} {k:Nat} (hk:k < s.Steps.length) (h:stE s s.Steps[k] (ends s k)=0):seqG s k=none:=by
 unfold seqG
 rw [List.getElem?_eq_getElem hk]
 dsimp only
 rw [h,if_neg (by simp)]
structure StepIn (s:SSequence) (x:SStep):Prop where
 ok:StepOk x
 far:∀ k (h:k < x.Strokes.length),x.Strokes[k].Actuator < s.Actuators
theorem seqG_none {s:SSequence} {k:Nat} (hk:k < s.Steps.length) (h:seqG s k=none):StepIn s s.Steps[k]∧clash s.Steps[k] (ends s k)=false:=by
 unfold seqG at h
 rw [List.getElem?_eq_getElem hk] at h
 dsimp only at h
 by_cases h0:stE s s.Steps[k] (ends s k)≠0
 ·rw [if_pos h0] at h;simp at h
 ·have h1:stE s s.Steps[k] (ends s k)=0:=by simpa using h0
  unfold stE at h1
  split at h1
  ·rename_i h2;exact (h2 h1).elim
  ·split at h1
   ·omega
   ·split at h1
    ·omega
    ·rename_i a b c
     exact ⟨⟨stepE_ok (by simpa using a),far_f (by simpa using b)⟩,by simpa using c⟩
def way (x:SStep) (a:Int):Int:=match x.Strokes.findSome? (fun y=>bif y.Actuator==a then some (if y.Out then (1:Int) else -1) else none) with | some r=>r | none=>0
def hasA (x:SStep) (a:Int):Bool:=x.Strokes.any fun y=>y.Actuator==a
theorem m157_eq (x:SStep) (a:Int) (hx:x.Strokes.length≤9223372036854775807):m157 x a=some (way x a):=by
 unfold m157 way
 rw [iter_list x.Strokes (fun y=>bif y.Actuator==a then some (if y.Out then (1:Int) else -1) else none) ?hn () ?h0 ?h ?he]
 case hn=>unfold fuel;omega
 case h0=>rfl
 case he=>
  try dsimp only
  rw [cond_f (lt_f (by omega))]
 case h=>
  intro k hk
  try dsimp only
  rw [cond_t (lt_t (by omega)),idx_lt hk]
  simp only [Option.bind_some]
  rw [addI_nat (by omega)]
  cases x.Strokes[k].Actuator==a<;>cases x.Strokes[k].Out<;>rfl
 cases x.Strokes.findSome? (fun y=>bif y.Actuator==a then some (if y.Out then (1:Int) else -1) else none)<;>rfl
theorem way_ne (x:SStep) (a:Int):(way x a !=0)=hasA x a:=by
 unfold way hasA
 induction x.Strokes with
 | nil=>rfl
 | cons y l ih=>
  rw [List.findSome?_cons,List.any_cons]
  cases h:y.Actuator==a with
  | true=>cases y.Out<;>rfl
  | false=>simpa using ih
theorem mvs_eq (l:List SStroke) (e:Nat→Bool) (a:Nat):mvs l e a=(e a||l.any fun y=>y.Actuator==(a:Int)):=by
 induction l generalizing e with
 | nil=>simp [mvs]
 | cons y l ih=>
  have:mvs (y::l) e=mvs l (fun a:Nat=>if y.Actuator=(a:Int) then true else e a):=rfl
  rw [this,ih,List.any_cons]
  by_cases h:y.Actuator=(a:Int)
  ·simp [h]
  ·have hb:(y.Actuator==(a:Int))=false:=by simpa using h
   rw [hb,if_neg h,Bool.false_or]
theorem moved_eq (s:SSequence) (a:Nat):∀ k,k≤s.Steps.length→moved s k a=(s.Steps.take k).any fun x=>hasA x a:=by
 intro k
 induction k with
 | zero=>intro _;simp [moved]
 | succ k ih=>
  intro hk
  rw [moved_succ (by omega),mvs_eq,ih (by omega),List.take_add_one,List.getElem?_eq_getElem (by omega),List.any_append]
  simp [hasA]
theorem m92_eq (s:SSequence) (a:Int) (hs:s.Steps.length≤9223372036854775807) (hx:∀ x∈s.Steps,x.Strokes.length≤9223372036854775807):m92 s a=some (s.Steps.any fun x=>hasA x a):=by
 unfold m92
 rw [iter_list s.Steps (fun x=>bif hasA x a then some true else none) ?hn () ?h0 ?h ?he]
 case hn=>unfold fuel;omega
 case h0=>rfl
 case he=>
  try dsimp only
  rw [cond_f (lt_f (by omega))]
 case h=>
  intro k hk
  try dsimp only
  rw [cond_t (lt_t (by omega)),idx_lt hk]
  simp only [Option.bind_some]
  rw [m157_eq _ _ (hx _ (List.getElem_mem hk)),addI_nat (by omega)]
  simp only [Option.bind_some,way_ne]
  cases hasA s.Steps[k] a<;>rfl
 rw [findSome_if]
 cases s.Steps.any fun x=>hasA x a<;>rfl
theorem ends_far {s:SSequence} {a:Nat} (ha:s.Actuators≤a):∀ k,k≤s.Steps.length→(∀ j,j < k→seqG s j=none)→ends s k a=false:=by
 intro k
 induction k with
 | zero=>intro _ _;simp [ends]
 | succ k ih=>
  intro hk hj
  have h1:=ih (by omega) (fun j hj'=>hj j (by omega))
  obtain ⟨h2,_⟩:=seqG_none (show k < s.Steps.length by omega) (hj k (by omega))
  rw [ends_succ (by omega)]
  have key:∀ l:List SStroke,(∀ y∈l,y.Actuator < s.Actuators)→∀ e:Nat→Bool,upd l e a=e a:=by
   intro l
   induction l with
   | nil=>intro _ e;rfl
   | cons y l ihl=>
    intro hl e
    have:upd (y::l) e=upd l (fun a:Nat=>if y.Actuator=(a:Int) then y.Out else e a):=rfl
    rw [this,ihl (fun z hz=>hl z (by simp [hz]))]
    have:=hl y (by simp)
    rw [if_neg (by omega)]
  rw [key _ ?_]
  ·exact h1
  ·intro y hy
   obtain ⟨i,hi,rfl⟩:=List.getElem_of_mem hy
   exact h2.far i hi
def chk (s:SSequence):Int:=
 if s.Actuators < 1∨6 < s.Actuators then 2 else if s.Steps.length=0 then 13 else if 64 < s.Steps.length then 5 else
 match first s.Steps.length (seqG s) with
 | some r=>r
 | none=>if (List.range s.Actuators.toNat).any (ends s s.Steps.length)=true then 9 else if (List.range s.Actuators.toNat).all (moved s s.Steps.length)=true then 0 else 13
def seqE (s:SSequence):Int:=match first s.Steps.length (seqG s) with
 | some r=>r
 | none=>if (List.range s.Actuators.toNat).any (ends s s.Steps.length)=true then 9 else 0
theorem m91_eq (s:SSequence) (h1:1≤s.Actuators) (h6:s.Actuators≤6) (hs:s.Steps.length≤64):m91 s=some (seqE s):=by
 unfold m91 seqE
 have hmk:mkc 1 s.Actuators false=some (List.replicate s.Actuators.toNat false):=by
  unfold mkc;rw [if_pos ⟨by omega,by omega,by omega⟩]
 rw [hmk]
 simp only [Option.bind_some]
 have hA:s.Actuators.toNat≤6:=by omega
 rw [iter_first (fun k:Nat=>((List.range s.Actuators.toNat).map (ends s k),(k:Int))) (seqG s) s.Steps.length ?hn ((List.range s.Actuators.toNat).map (ends s s.Steps.length)) ?h0 ?h ?he]
 case hn=>unfold fuel;omega
 case h0=>
  have:(List.range s.Actuators.toNat).map (ends s 0)=List.replicate s.Actuators.toNat false:=by
   apply List.ext_getElem
   ·simp
   ·intro i h1 h2;simp [ends]
  rw [this];rfl
 case he=>
  intro _
  try dsimp only
  rw [cond_f (lt_f (by omega))]
 case h=>
  intro k hk hj
  try dsimp only
  rw [cond_t (lt_t (by omega)),idx_lt hk]
  simp only [Option.bind_some]
  rw [m154_eq]
  simp only [Option.bind_some]
  by_cases e0:stepE s.Steps[k]=0
  ·have ho:=stepE_ok e0
   have hle:=ho.le
   rw [cond_f (by simpa using e0)]
   rw [iter_list s.Steps[k].Strokes (fun y=>bif decide (y.Actuator≥s.Actuators) then some (.inr (.inr 6)) else none) ?hn () ?h0 ?h ?he]
   case hn=>unfold fuel;omega
   case h0=>rfl
   case he=>
    try dsimp only
    rw [cond_f (lt_f (by omega))]
   case h=>
    intro i hi
    try dsimp only
    rw [cond_t (lt_t (by omega)),idx_lt hi]
    simp only [Option.bind_some]
    rw [addI_nat (by omega)]
    cases decide (s.Steps[k].Strokes[i].Actuator≥s.Actuators)<;>rfl
   rw [findSome_if]
   have hfd:(s.Steps[k].Strokes.any fun y=>decide (y.Actuator≥s.Actuators))=far s s.Steps[k]:=rfl
   rw [hfd]
   cases hf:far s s.Steps[k] with
   | true=>
    rw [seqG_some hk (r:=6) (by unfold stE;rw [if_neg (by simpa using e0),if_pos hf]) (by decide)]
    rfl
   | false=>
    have hfar:=far_f hf
    have ha:∀ i (h:i < s.Steps[k].Strokes.length),0≤s.Steps[k].Strokes[i].Actuator∧s.Steps[k].Strokes[i].Actuator < (s.Actuators.toNat:Int):=fun i hi=>⟨(ho.act i hi).1,by have:=hfar i hi;omega⟩
    simp only [cond_false,Option.bind_some,Sum.elim_inl,Bool.false_eq_true,if_false]
    rw [m155_eq _ _ hA _ ho.le ha]
    simp only [Option.bind_some,Bool.not_not]
    cases hc:clash s.Steps[k] (ends s k) with
    | true=>
     rw [seqG_some hk (r:=14) (by unfold stE;rw [if_neg (by simpa using e0),if_neg (by simp [hf]),if_pos hc]) (by decide)]
     rfl
    | false=>
     rw [seqG_zero hk (by unfold stE;rw [if_neg (by simpa using e0),if_neg (by simp [hf]),if_neg (by simp [hc])])]
     simp only [cond_false]
     rw [m156_eq _ _ hA _ ho.le ha,addI_nat (by omega),ends_succ hk]
     rfl
  ·rw [cond_t (by simpa using e0),seqG_some hk (by unfold stE;rw [if_pos e0]) e0]
 cases hfst:first s.Steps.length (seqG s) with
 | some r=>rfl
 | none=>
  simp only [Option.bind_some,Sum.elim_inl]
  rw [iter_list (List.range s.Actuators.toNat) (fun a=>bif ends s s.Steps.length a then some 9 else none) ?hn () ?h0 ?h ?he]
  case hn=>unfold fuel;simp;omega
  case h0=>rfl
  case he=>
   try dsimp only
   rw [cond_f (lt_f (by simp;omega))]
  case h=>
   intro k hk
   have hk':k < s.Actuators.toNat:=by simpa using hk
   try dsimp only
   rw [cond_t (lt_t (by omega)),idx_lt (by simpa using hk)]
   simp only [Option.bind_some,List.getElem_map,List.getElem_range]
   rw [addI_nat (by omega)]
   cases ends s s.Steps.length k<;>rfl
  rw [findSome_if]
  cases (List.range s.Actuators.toNat).any (ends s s.Steps.length)<;>rfl
end G33
end
