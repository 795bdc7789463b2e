/- Parts of my machine and its laws, joined: P32d P32e P32f P32g P32h P32i P32b P32a P32j P32l P32m P32n P32o. No condition. -/
import Derived.Test.YtafgdbaekppjcaaGreatDoorG33g
import Derived.KernelRfl
import Derived.Test.YtafgdbaekppjcaaGreatDoorG33M
set_option linter.unusedSectionVars false
set_option linter.unusedVariables false
set_option linter.unusedSimpArgs false
section
namespace G33
open Go Go.Pl
def Small (s:SSequence):Prop:=s.Steps.length≤9223372036854775807∧∀ x∈s.Steps,x.Strokes.length≤9223372036854775807
theorem m49_eq (s:SSequence) (hs:Small s):m49 s=some (chk s):=by
 unfold m49 chk
 rw [or_b];simp only [Option.bind_some]
 by_cases h1:s.Actuators < 1∨6 < s.Actuators
 ·rw [cond_t (by simp only [Bool.or_eq_true,decide_eq_true_eq];omega),if_pos h1]
 rw [cond_f (by simp only [Bool.or_eq_false_iff,decide_eq_false_iff_not];omega),if_neg h1]
 by_cases h2:s.Steps.length=0
 ·rw [cond_t (by simpa using h2),if_pos h2]
 rw [cond_f (by simpa using h2),if_neg h2]
 by_cases h3:64 < s.Steps.length
 ·rw [cond_t (by simp;omega),if_pos h3]
 rw [cond_f (by simp;omega),if_neg h3,m91_eq s (by omega) (by omega) (by omega)]
 simp only [Option.bind_some]
 unfold seqE
 cases hf:first s.Steps.length (seqG s) with
 | some r=>
  have hr:r≠0:=by
   unfold first at hf
   obtain ⟨k,_,hk⟩:=List.exists_of_findSome?_eq_some hf
   unfold seqG at hk
   split at hk
   ·simp at hk
   ·split at hk
    ·rename_i h;injection hk with hk;rw [←hk];exact h
    ·simp at hk
  simp only
  rw [cond_t (by simpa using hr)]
 | none=>
  simp only
  by_cases h9:(List.range s.Actuators.toNat).any (ends s s.Steps.length)=true
  ·rw [if_pos h9,if_pos h9];rfl
  rw [if_neg h9,if_neg h9,cond_f (by rfl)]
  rw [iter_list (List.range s.Actuators.toNat) (fun a=>bif !moved s s.Steps.length a then some 13 else none) ?hn () ?h0 ?h ?he]
  case hn=>unfold fuel;simp;omega
  case h0=>rfl
  case he=>
   try dsimp only
   rw [cond_f (lt_f (by simp;omega))]
  case h=>
   intro k hk
   have hk':k < s.Actuators.toNat:=by simpa using hk
   try dsimp only
   rw [cond_t (lt_t (by omega)),m92_eq s _ hs.1 hs.2]
   simp only [Option.bind_some,List.getElem_range]
   rw [addI_nat (by omega),moved_eq s k _ (Nat.le_refl _),List.take_of_length_le (Nat.le_refl _)]
   cases s.Steps.any fun x=>hasA x (k:Int)<;>rfl
  rw [findSome_if]
  have:(List.range s.Actuators.toNat).any (fun a=> !moved s s.Steps.length a)= !(List.range s.Actuators.toNat).all (moved s s.Steps.length):=by
   rw [List.not_all_eq_any_not]
  rw [this]
  cases (List.range s.Actuators.toNat).all (moved s s.Steps.length)<;>rfl
theorem mvs_take {l:List SStroke} {k:Nat} (h:k < l.length) (e:Nat→Bool):mvs (l.take (k+1)) e=fun a:Nat=>if l[k].Actuator=(a:Int) then true else mvs (l.take k) e a:=by
 unfold mvs
 rw [List.take_add_one,List.getElem?_eq_getElem h,List.foldl_append]
 rfl
theorem m141_eq (l:List Bool) (hl:l.length≤6):m141 l false=some (l.any fun b=>b==false):=by
 unfold m141 m213
 rw [iter_first (fun k:Nat=>(k:Int)) (fun k=>match l[k]? with | some b=>bif b==false then some (k:Int) else none | none=>none) l.length ?hn () ?h0 ?h ?he]
 case hn=>unfold fuel;omega
 case h0=>rfl
 case he=>
  intro _
  try dsimp only
  rw [cond_f (lt_f (by omega))]
 case h=>
  intro k hk _
  try dsimp only
  rw [cond_t (lt_t (by omega)),idx_lt hk,List.getElem?_eq_getElem hk]
  simp only [Option.bind_some]
  rw [addI_nat (by omega)]
  cases l[k]<;>rfl
 cases hf:first l.length (fun k=>match l[k]? with | some b=>bif b==false then some (k:Int) else none | none=>none) with
 | none=>
  rw [first_none_iff] at hf
  have:(l.any fun b=>b==false)=false:=by
   rw [List.any_eq_false]
   intro b hb
   obtain ⟨k,hk,rfl⟩:=List.getElem_of_mem hb
   have:=hf k hk
   rw [List.getElem?_eq_getElem hk] at this
   dsimp only at this
   intro hc
   rw [hc] at this
   simp at this
  rw [this];rfl
 | some r=>
  unfold first at hf
  obtain ⟨k,hk,hr⟩:=List.exists_of_findSome?_eq_some hf
  have hk':k < l.length:=by simpa using hk
  rw [List.getElem?_eq_getElem hk'] at hr
  dsimp only at hr
  cases hb:l[k]==false with
  | false=>rw [hb] at hr;simp at hr
  | true=>
   rw [hb] at hr
   simp only [cond_true,Option.some.injEq] at hr
   have:(l.any fun b=>b==false)=true:=by
    rw [List.any_eq_true]
    exact ⟨l[k],List.getElem_mem hk',hb⟩
   rw [this]
   subst hr
   simp only [Option.bind_some,Sum.elim_inr]
   simp
theorem m81_eq (s:SSequence):m81 s=some (chk s):=by
 unfold m81 chk
 rw [or_b];simp only [Option.bind_some]
 by_cases h1:s.Actuators < 1∨6 < s.Actuators
 ·rw [cond_t (by simp only [Bool.or_eq_true,decide_eq_true_eq];omega),if_pos h1]
 rw [cond_f (by simp only [Bool.or_eq_false_iff,decide_eq_false_iff_not];omega),if_neg h1]
 by_cases h2:s.Steps.length=0
 ·rw [cond_t (by simpa using h2),if_pos h2]
 rw [cond_f (by simpa using h2),if_neg h2]
 by_cases h3:64 < s.Steps.length
 ·rw [cond_t (by simp;omega),if_pos h3]
 rw [cond_f (by simp;omega),if_neg h3]
 rw [iter_first (fun k:Nat=>((k:Int),arrOf (ends s k),arrOf (moved s k))) (seqG s) s.Steps.length ?hn (arrOf (ends s s.Steps.length),arrOf (moved s s.Steps.length)) ?h0 ?h ?he]
 case hn=>unfold fuel;omega
 case h0=>rfl
 case he=>
  intro _
  try dsimp only
  rw [cond_f (lt_f (by omega))]
 case h=>
  intro k hk hj
  try dsimp only
  rw [cond_t (lt_t (by omega)),idx_lt hk]
  simp only [Option.bind_some]
  rw [m139_eq]
  simp only [Option.bind_some]
  by_cases e0:stE s s.Steps[k] (ends s k)=0
  ·have hg:=seqG_zero hk e0
   obtain ⟨h4,_⟩:=seqG_none hk hg
   have hle:=h4.ok.le
   rw [cond_f (by simpa using e0),hg,m140_eq _ _ h4.ok.le h4.ok.act]
   simp only [Option.bind_some]
   rw [iter_fold (fun i:Nat=>((i:Int),arrOf (upd s.Steps[k].Strokes (ends s k)),arrOf (mvs (s.Steps[k].Strokes.take i) (moved s k)))) s.Steps[k].Strokes.length ?hn (arrOf (upd s.Steps[k].Strokes (ends s k)),arrOf (moved s (k+1))) ?h0 ?h ?he]
   case hn=>unfold fuel;omega
   case h0=>rfl
   case he=>
    try dsimp only
    rw [cond_f (lt_f (by omega)),List.take_of_length_le (Nat.le_refl _),moved_succ hk]
   case h=>
    intro i hi
    try dsimp only
    obtain ⟨h5,h6⟩:=h4.ok.act i hi
    rw [cond_t (lt_t (by omega)),idx_lt hi]
    simp only [Option.bind_some]
    rw [arrOf_idx _ h5 h6]
    simp only [Option.bind_some]
    rw [arrOf_put _ _ _ h5,addI_nat (by omega),mvs_take hi]
   simp only [Option.bind_some]
   rw [addI_nat (by omega),ends_succ hk]
  ·rw [cond_t (by simpa using e0),seqG_some hk rfl e0]
 cases hf:first s.Steps.length (seqG s) with
 | some r=>rfl
 | none=>
  simp only [Option.bind_some,Sum.elim_inl]
  have hfar:∀ a:Nat,s.Actuators≤a→ends s s.Steps.length a=false:=fun a ha=>ends_far ha _ (Nat.le_refl _) (fun j hj=>(first_none_iff.1 hf) j hj)
  have he:((arrOf (ends s s.Steps.length)).1==(Arr.rep 6 false).1)= !(List.range s.Actuators.toNat).any (ends s s.Steps.length):=by
   have hz:((arrOf (ends s s.Steps.length)).1=(Arr.rep 6 false).1)↔(List.range s.Actuators.toNat).any (ends s s.Steps.length)=false:=by
    rw [List.any_eq_false]
    constructor
    ·intro h a ha
     have ha':a < s.Actuators.toNat:=List.mem_range.1 ha
     have:=congrArg (fun l=>l[a]?) h
     have h6:a < 6:=by omega
     have h7:(arrOf (ends s s.Steps.length)).1[a]?=some (ends s s.Steps.length a):=by
      simp only [arrOf,List.getElem?_map,List.getElem?_range h6,Option.map_some]
     have h8:(Arr.rep 6 false).1[a]?=some false:=by
      simp only [Arr.rep,List.getElem?_replicate,if_pos h6]
     simp only [h7,h8,Option.some.injEq] at this
     simp [this]
    ·intro h
     apply List.ext_getElem
     ·simp [arrOf,Arr.rep]
     ·intro a h1 h2
      simp only [arrOf,Arr.rep,List.getElem_map,List.getElem_range,List.getElem_replicate]
      by_cases ha:a < s.Actuators.toNat
      ·have:=h a (List.mem_range.2 ha);simpa using this
      ·exact hfar a (by omega)
   cases hb:(List.range s.Actuators.toNat).any (ends s s.Steps.length) with
   | false=>rw [hz.2 hb];simp
   | true=>
    rw [Bool.not_true,beq_eq_false_iff_ne]
    intro hc
    rw [hz.1 hc] at hb;simp at hb
  rw [show ([false,false,false,false,false,false]:List Bool)=(Arr.rep 6 false).1 from rfl,he]
  by_cases h9:(List.range s.Actuators.toNat).any (ends s s.Steps.length)=true
  ·rw [if_pos h9,h9];rfl
  ·rw [if_neg h9]
   simp only [Bool.not_eq_true] at h9
   rw [h9]
   have hsl:slcc (arrOf (moved s s.Steps.length)).1 none (some s.Actuators)=some ((List.range s.Actuators.toNat).map (moved s s.Steps.length)):=by
    unfold slcc
    rw [if_pos ⟨by simp,by simp;omega,by simp [arrOf];omega⟩]
    congr 1
    apply List.ext_getElem
    ·simp [arrOf];omega
    ·intro i h1 h2;simp [arrOf]
   simp only [Bool.not_false,bne_self_eq_false,cond_false]
   rw [hsl]
   have hl:List.take (s.Actuators.toNat - 0) (List.drop 0 (arrOf (moved s s.Steps.length)).1)=(List.range s.Actuators.toNat).map (moved s s.Steps.length):=by
    apply List.ext_getElem
    ·simp [arrOf];omega
    ·intro i h1 h2;simp [arrOf]
   simp only [Option.bind_some]
   rw [if_pos (by omega),hl,m141_eq _ (by simp;omega)]
   simp only [Option.bind_some,List.any_map]
   have:(List.range s.Actuators.toNat).any ((fun b=>b==false) ∘ moved s s.Steps.length)= !(List.range s.Actuators.toNat).all (moved s s.Steps.length):=by
    rw [List.not_all_eq_any_not]
    congr 1
    funext a
    simp
   rw [this]
   cases (List.range s.Actuators.toNat).all (moved s s.Steps.length)<;>rfl
end G33
end
section
namespace G33
open Go Go.Pl
set_option linter.unusedVariables false
set_option linter.unusedSimpArgs false
def cnt (s:SSequence) (k:Nat):Nat:=((s.Steps.take k).filter (fun x=>x.Wait !=0)).length
def tmAt (s:SSequence) (n:Int) (k:Nat):Int:=match s.Steps[k]? with
 | some x=>if x.Wait=0 then -1 else n+(cnt s k:Int)
 | none=>0
def tms (s:SSequence) (n:Int) (k:Nat):List Int:=(List.range k).map (tmAt s n)
theorem cnt_succ {s:SSequence} {k:Nat} (h:k < s.Steps.length):cnt s (k+1)=if s.Steps[k].Wait=0 then cnt s k else cnt s k+1:=by
 unfold cnt
 rw [List.take_add_one,List.getElem?_eq_getElem h,List.filter_append]
 by_cases hw:s.Steps[k].Wait=0
 ·rw [if_pos hw];simp [hw]
 ·rw [if_neg hw];simp [hw]
theorem cnt_le (s:SSequence) (k:Nat):cnt s k≤s.Steps.length:=by
 unfold cnt
 exact Nat.le_trans (List.length_filter_le _ _) (by rw [List.length_take];omega)
theorem tms_succ {s:SSequence} {n:Int} {k:Nat}:tms s n (k+1)=tms s n k++[tmAt s n k]:=by
 unfold tms;rw [List.range_succ,List.map_append];rfl
theorem m130_eq (s:SSequence) (n:Int) (hs:s.Steps.length≤64) (h0:0≤n) (h1:n < 1000000):m130 s n=some ⟨s,tms s n s.Steps.length⟩:=by
 unfold m130
 rw [iter_fold (fun k:Nat=>(n+(cnt s k:Int),(k:Int),(0:Int),([]:List SStep),([]:List Int),s.Actuators,s.Steps,tms s n k)) s.Steps.length ?hn ((0:Int),([]:List SStep),([]:List Int),s.Actuators,s.Steps,tms s n s.Steps.length) ?h0 ?h ?he]
 case hn=>unfold fuel;omega
 case h0=>simp [cnt,tms]
 case he=>
  try dsimp only
  rw [cond_f (lt_f (by omega))]
 case h=>
  intro k hk
  try dsimp only
  have hc:=cnt_le s k
  have hlen:(tms s n k).length=k:=by simp [tms]
  rw [cond_t (lt_t (by omega)),idx_lt hk]
  simp only [Option.bind_some]
  rw [appc_eq (by simp [hlen];omega) (by simp [hlen];omega),appc_eq (by simp [hlen];omega) (by simp [hlen];omega)]
  have ht:tmAt s n k=if s.Steps[k].Wait=0 then -1 else n+(cnt s k:Int):=by
   unfold tmAt;rw [List.getElem?_eq_getElem hk]
  by_cases hw:s.Steps[k].Wait=0
  ·rw [cond_t (by simpa using hw)]
   simp only [Option.bind_some]
   rw [tms_succ,ht,if_pos hw,cnt_succ hk,if_pos hw,addI_nat (by omega)]
  ·rw [cond_f (by simpa using hw)]
   simp only [Option.bind_some]
   rw [tms_succ,ht,if_neg hw,cnt_succ hk,if_neg hw,addI_nat (by omega),addI_eq (by omega) (by omega)]
   rw [show n+(cnt s k:Int)+1=n+((cnt s k+1:Nat):Int) by omega]
 simp only [Option.bind_some]
end G33
end
section
namespace G33
open Go Go.Pl
set_option linter.unusedVariables false
set_option linter.unusedSimpArgs false
def mods (f:Int) (k:Nat):List Int:=(List.range k).map fun j:Nat=>f+(j:Int)
theorem mods_succ {f:Int} {k:Nat}:mods f (k+1)=mods f k++[f+(k:Int)]:=by
 unfold mods;rw [List.range_succ,List.map_append];rfl
def fst (s:SSequence):Int:=2*s.Actuators+1
end G33
end
section
namespace G33
open Go Go.Pl
set_option linter.unusedVariables false
set_option linter.unusedSimpArgs false
theorem fst_eq {s:SSequence} (h0:1≤s.Actuators) (h1:s.Actuators≤6):addI .i64 (mulI .i64 2 s.Actuators) 1=fst s:=by
 have:mulI .i64 2 s.Actuators=2*s.Actuators:=by unfold mulI;exact wrap_i64 (by omega) (by omega)
 rw [this,addI_eq (by omega) (by omega)];rfl
theorem fst_le {s:SSequence} (h0:1≤s.Actuators) (h1:s.Actuators≤6):3≤fst s∧fst s≤13:=by unfold fst;omega
theorem tmAt_eq {s:SSequence} {n:Int} {k:Nat} (hk:k < s.Steps.length):tmAt s n k=if s.Steps[k].Wait=0 then -1 else n+(cnt s k:Int):=by
 unfold tmAt;rw [List.getElem?_eq_getElem hk]
theorem tmAt_nonneg {s:SSequence} {n:Int} {k:Nat} (hk:k < s.Steps.length) (hn:0≤n):decide (tmAt s n k≥0)=(s.Steps[k].Wait !=0):=by
 have e:=tmAt_eq (n:=n) hk
 by_cases hw:s.Steps[k].Wait=0
 ·rw [if_pos hw] at e
  have:decide (tmAt s n k≥0)=false:=by simp only [decide_eq_false_iff_not];omega
  rw [this];simp [hw]
 ·rw [if_neg hw] at e
  have:decide (tmAt s n k≥0)=true:=by simp only [decide_eq_true_eq];omega
  rw [this];simp [hw]
theorem m75_eq (s:SSequence) (n:Int) (hn:0≤n) (hs:s.Steps.length≤64):m75 ⟨s,tms s n s.Steps.length⟩=some (cnt s s.Steps.length:Int):=by
 unfold m75
 have hlen:(tms s n s.Steps.length).length=s.Steps.length:=by simp [tms]
 rw [iter_fold (fun k:Nat=>((cnt s k:Int),(k:Int))) s.Steps.length ?hn (cnt s s.Steps.length:Int) ?h0 ?h ?he]
 case hn=>unfold fuel;omega
 case h0=>simp [cnt]
 case he=>
  try dsimp only
  rw [cond_f (lt_f (by omega))]
 case h=>
  intro k hk
  try dsimp only
  have hc:=cnt_le s k
  have hg:(tms s n s.Steps.length)[k]'(by omega)=tmAt s n k:=by simp [tms]
  rw [cond_t (lt_t (by omega)),idx_lt (show k < (tms s n s.Steps.length).length by omega),hg]
  simp only [Option.bind_some]
  rw [tmAt_nonneg hk hn]
  by_cases hw:s.Steps[k].Wait=0
  ·rw [cond_f (by simp [hw]),cnt_succ hk,if_pos hw,addI_nat (by omega)];rfl
  ·rw [cond_t (by simpa using hw),cnt_succ hk,if_neg hw,addI_nat (by omega),addI_nat (by omega)];rfl
 rfl
end G33
end
section
namespace G33
open Go Go.Pl
set_option linter.unusedVariables false
set_option linter.unusedSimpArgs false
def lineE (n:Int):SExpr:=⟨1,n,[]⟩
def swE (x:SStroke):SExpr:=lineE (2*x.Actuator+if x.Out then 1 else 0)
def sws (l:List SStroke) (k:Nat):List SExpr:=(l.take k).map swE
theorem sws_succ {l:List SStroke} {k:Nat} (h:k < l.length):sws l (k+1)=sws l k++[swE l[k]]:=by
 unfold sws;rw [List.take_add_one,List.getElem?_eq_getElem h,List.map_append];rfl
theorem sws_all (l:List SStroke):sws l l.length=l.map swE:=by unfold sws;rw [List.take_length]
theorem m171_line (n:Int):m171 n=some (lineE n):=rfl
end G33
end
section
namespace G33
open Go Go.Pl
set_option linter.unusedVariables false
set_option linter.unusedSimpArgs false
def endE (s:SSequence) (n:Int) (k:Nat):List SExpr:=match s.Steps[k]? with
 | some x=>if x.Wait=0 then x.Strokes.map swE else [lineE (tmAt s n k)]
 | none=>[]
theorem tms_idx {s:SSequence} {n:Int} {k:Nat} (hk:k < s.Steps.length):idx (tms s n s.Steps.length) (k:Int)=some (tmAt s n k):=by
 have hlen:(tms s n s.Steps.length).length=s.Steps.length:=by simp [tms]
 rw [idx_lt (by omega)];simp [tms]
end G33
end
section
namespace G33
open Go Go.Pl
set_option linter.unusedVariables false
def num1 (p:List UInt8) (k:Nat):Bool:=decide (m109 p k=(m172 k).bind fun v=>catc p v)&&(m109 p k).isSome
set_option maxRecDepth 100000
theorem num_all:((List.range 100).all fun k=>num1 [103] k&&num1 [115] k&&num1 [119] k)=true:=by kernel_rfl
theorem num_eq {p:List UInt8} (hp:p=[103]∨p=[115]∨p=[119]) {k:Nat} (hk:k < 100):∃ t,m109 p k=some t∧(m172 k).bind (fun v=>catc p v)=some t:=by
 have h:=num_all
 rw [List.all_eq_true] at h
 have h:=h k (List.mem_range.mpr hk)
 rw [Bool.and_eq_true,Bool.and_eq_true] at h
 have:num1 p k=true:=by
  rcases hp with rfl | rfl | rfl
  ·exact h.1.1
  ·exact h.1.2
  ·exact h.2
 unfold num1 at this
 rw [Bool.and_eq_true,decide_eq_true_eq] at this
 obtain ⟨t,ht⟩:=Option.isSome_iff_exists.mp this.2
 exact ⟨t,ht,by rw [←this.1];exact ht⟩
end G33
end
section
namespace G33
open Go Go.Pl
set_option linter.unusedVariables false
set_option linter.unusedSimpArgs false
theorem iter_all {α:Type} {body:Int→Option (Int⊕(Unit⊕α))} (n:Nat) (hn:n < fuel) (h:∀ k:Nat,k < n→body k=some (.inl ((k+1:Nat):Int))) (he:body n=some (.inr (.inl ()))):iter body 0=some (.inl ()):=by
 obtain ⟨r,h1,h2⟩:=iter_cnt (body:=body) n hn (fun _=>True) (fun r=>r= .inl ()) trivial (fun k hk _=>by
  by_cases hkn:k < n
  ·exact .inl ⟨hkn,h k hkn,trivial⟩
  ·have:k=n:=by omega
   subst this;exact .inr ⟨_,he,rfl⟩)
 rw [h1,h2]
@[simp] theorem SExpr.eta3 (e:SExpr):(⟨e.Op,e.Index,e.Args⟩:SExpr)=e:=by cases e;rfl
inductive Nest:Nat→SExpr→Prop
 | mk {n:Nat} {e:SExpr} (h:e.Args.length < 1000) (h2:∀ k (h:k < e.Args.length),Nest n e.Args[k]):Nest (n+1) e
inductive Size:Nat→Nat→SExpr→Prop
 | mk {d:Nat} {e:SExpr} (f:Nat→Nat) (h:e.Args.length < 1000) (h2:∀ k (h:k < e.Args.length),Size d (f k) e.Args[k]):Size (d+1) (1+((List.range e.Args.length).map f).sum) e
def Lit (e:SExpr):Prop:=∃ d n,Size d n e∧Nest d e∧d≤16∧n≤256
end G33
end
section
namespace G33
open Go Go.Pl
set_option linter.unusedVariables false
set_option linter.unusedSimpArgs false
def nameOf (p:List UInt8) (k:Nat):List UInt8:=(m109 p k).getD []
def noE:SExpr:=⟨0,0,[]⟩
def clkOf (s:SSequence) (M:List Int) (k:Nat):List SSignal:=match s.Steps[k]?,M[k]? with
 | some x,some m=>if x.Wait=0 then [] else [⟨nameOf [119] k,2,⟨3,0,lineE m::x.Strokes.map swE⟩,noE,x.Wait,false⟩]
 | _,_=>[]
def clks (s:SSequence) (M:List Int) (k:Nat):List SSignal:=(List.range k).flatMap (clkOf s M)
theorem clks_succ {s:SSequence} {M:List Int} {k:Nat}:clks s M (k+1)=clks s M k++clkOf s M k:=by
 unfold clks;rw [List.range_succ,List.flatMap_append];simp
theorem clkOf_len (s:SSequence) (M:List Int) (k:Nat):(clkOf s M k).length≤1:=by
 unfold clkOf;split
 ·split<;>simp
 ·simp
theorem clks_len (s:SSequence) (M:List Int):∀ k,(clks s M k).length≤k
 | 0=>by simp [clks]
 | k+1=>by
  rw [clks_succ,List.length_append]
  have:=clks_len s M k
  have:=clkOf_len s M k
  omega
end G33
end
section
namespace G33
open Go Go.Pl
set_option linter.unusedVariables false
set_option linter.unusedSimpArgs false
structure Good (s:SSequence):Prop where
 a1:1≤s.Actuators
 a6:s.Actuators≤6
 n0:0 < s.Steps.length
 n64:s.Steps.length≤64
 step:∀ i (h:i < s.Steps.length),StepOk s.Steps[i]
def sev (a:Int):List SExpr→SExpr
 | [x]=>x
 | l=>⟨a,0,l⟩
theorem endE_len {s:SSequence} (h:Good s) {n:Int} {k:Nat} (hk:k < s.Steps.length):(endE s n k).length≤6:=by
 unfold endE
 rw [List.getElem?_eq_getElem hk]
 dsimp only
 split
 ·simpa using (h.step k hk).le
 ·simp
theorem act2 {s:SSequence} (h:Good s):mulI .i64 2 s.Actuators=2*s.Actuators:=by
 have:=h.a1;have:=h.a6
 exact mulI_eq (by omega) (by omega)
theorem prev_eq {k n:Nat} (hk:k < n) (hn:n≤64):remc (subI .i64 (addI .i64 (k:Int) (n:Int)) 1) (n:Int)=some (((k+n - 1) % n:Nat):Int):=by
 rw [addI_eq (by omega) (by omega),subI_eq (by omega) (by omega),show (k:Int)+(n:Int) - 1=((k+n - 1:Nat):Int) by omega]
 unfold remc
 rw [if_neg (by omega),Int.ofNat_tmod]
theorem next_eq {k n:Nat} (hk:k < n) (hn:n≤64):remc (addI .i64 (k:Int) 1) (n:Int)=some (((k+1) % n:Nat):Int):=by
 rw [addI_nat (by omega)]
 unfold remc
 rw [if_neg (by omega),Int.ofNat_tmod]
end G33
end
section
namespace G33
open Go Go.Pl
set_option linter.unusedVariables false
set_option linter.unusedSimpArgs false
def hit (a:Int) (o:Bool) (y:SStroke):Bool:=y.Actuator==a&&y.Out==o
theorem any_first (l:List SStroke) (p:SStroke→Bool):(match first l.length (fun k=>match l[k]? with | some b=>bif p b then some (k:Int) else none | none=>none) with | none=>decide ((-1:Int)≥0) | some r=>decide (r≥0))=l.any p:=by
 cases hf:first l.length (fun k=>match l[k]? with | some b=>bif p b then some (k:Int) else none | none=>none) with
 | none=>
  rw [first_none_iff] at hf
  have:(l.any p)=false:=by
   rw [List.any_eq_false]
   intro b hb
   obtain ⟨k,hk,rfl⟩:=List.getElem_of_mem hb
   have:=hf k hk
   rw [List.getElem?_eq_getElem hk] at this
   dsimp only at this
   intro hc
   rw [hc] at this
   simp at this
  rw [this];rfl
 | some r=>
  unfold first at hf
  obtain ⟨k,hk,hr⟩:=List.exists_of_findSome?_eq_some hf
  have hk':k < l.length:=by simpa using hk
  rw [List.getElem?_eq_getElem hk'] at hr
  dsimp only at hr
  cases hb:p l[k] with
  | false=>rw [hb] at hr;simp at hr
  | true=>
   rw [hb] at hr
   simp only [cond_true,Option.some.injEq] at hr
   have:l.any p=true:=by
    rw [List.any_eq_true]
    exact ⟨l[k],List.getElem_mem hk',hb⟩
   rw [this]
   subst hr
   simp
def pil (s:SSequence) (M:List Int) (a:Int) (o:Bool):Nat→List SExpr
 | 0=>[]
 | k+1=>pil s M a o k++(match s.Steps[k]?,M[k]? with | some x,some m=>if x.Strokes.any (hit a o) then [lineE m] else [] | _,_=>[])
theorem pil_succ {s:SSequence} {M:List Int} {a:Int} {o:Bool} {k:Nat} (hk:k < s.Steps.length) (hm:k < M.length):pil s M a o (k+1)=pil s M a o k++if s.Steps[k].Strokes.any (hit a o) then [lineE M[k]] else []:=by
 rw [pil,List.getElem?_eq_getElem hk,List.getElem?_eq_getElem hm]
theorem pil_len (s:SSequence) (M:List Int) (a:Int) (o:Bool):∀ k,(pil s M a o k).length≤k
 | 0=>Nat.le_refl _
 | k+1=>by
  have:=pil_len s M a o k
  rw [pil,List.length_append]
  split
  ·split<;>simp<;>omega
  ·simp;omega
def pname (a:Nat) (o:Bool):List UInt8:=[UInt8.ofNat (97+a),if o then 112 else 109]
def pilSig (s:SSequence) (M:List Int) (a:Nat) (o:Bool):SSignal:=⟨pname a o,0,sev 4 (pil s M a o s.Steps.length),noE,0,false⟩
def pils (s:SSequence) (M:List Int) (k:Nat):List SSignal:=(List.range k).flatMap fun a=>[pilSig s M a true,pilSig s M a false]
theorem pils_succ {s:SSequence} {M:List Int} {k:Nat}:pils s M (k+1)=pils s M k++[pilSig s M k true,pilSig s M k false]:=by
 unfold pils;rw [List.range_succ,List.flatMap_append];simp
theorem pils_len (s:SSequence) (M:List Int):∀ k,(pils s M k).length=2*k
 | 0=>by simp [pils]
 | k+1=>by rw [pils_succ,List.length_append,pils_len s M k];simp;omega
theorem StepOk.lt {x:SStep} (h:StepOk x):∀ (d j:Nat) (hj:j+1+d < x.Strokes.length),x.Strokes[j].Actuator < x.Strokes[j+1+d].Actuator
 | 0,j,hj=>h.inc j hj
 | d+1,j,hj=>Int.lt_trans (h.lt d j (by omega)) (h.inc (j+1+d) hj)
theorem letters {a:Nat} (h:a < 6):slcc ([97,98,99,100,101,102]:List UInt8) (some (a:Int)) (some ((a+1:Nat):Int))=some [UInt8.ofNat (97+a)]:=by
 have:a=0∨a=1∨a=2∨a=3∨a=4∨a=5:=by omega
 rcases this with rfl | rfl | rfl | rfl | rfl | rfl<;>rfl
theorem catc_one (a:Nat) (n:UInt8):catc [UInt8.ofNat (97+a)] [n]=some [UInt8.ofNat (97+a),n]:=by
 unfold catc;rw [if_pos (by simp)];rfl
end G33
end
section
namespace G33
open Go Go.Pl
set_option linter.unusedVariables false
set_option linter.unusedSimpArgs false
structure Right (s:SSequence):Prop where
 a1:1≤s.Actuators
 a6:s.Actuators≤6
 n0:0 < s.Steps.length
 n64:s.Steps.length≤64
 step:∀ i (h:i < s.Steps.length),StepIn s s.Steps[i]
 mv:∀ a,a < s.Actuators.toNat→(s.Steps.any fun x=>hasA x (a:Int))=true
theorem chk_right {s:SSequence} (h:chk s=0):Right s:=by
 unfold chk at h
 split at h
 ·omega
 split at h
 ·omega
 split at h
 ·omega
 rename_i h1 h2 h3
 split at h
 ·rename_i r hr
  exfalso
  subst h
  unfold first at hr
  obtain ⟨k,_,hk⟩:=List.exists_of_findSome?_eq_some hr
  unfold seqG at hk
  split at hk
  ·simp at hk
  ·split at hk
   ·rename_i h;injection hk with hk;exact h hk
   ·simp at hk
 ·rename_i hf
  rw [first_none_iff] at hf
  split at h
  ·omega
  split at h
  ·rename_i hm
   refine ⟨by omega,by omega,by omega,by omega,fun i hi=>(seqG_none hi (hf i hi)).1,fun a ha=>?_⟩
   rw [List.all_eq_true] at hm
   have:=hm a (List.mem_range.2 ha)
   rw [moved_eq s a _ (Nat.le_refl _),List.take_of_length_le (Nat.le_refl _)] at this
   exact this
  ·omega
def mask (l:List SStroke):Nat:=l.foldl (fun m y=>m||| 2 ^ y.Actuator.toNat) 0
theorem mask_take {l:List SStroke} {k:Nat} (h:k < l.length):mask (l.take (k+1))=mask (l.take k)||| 2 ^ l[k].Actuator.toNat:=by
 unfold mask
 rw [List.take_add_one,List.getElem?_eq_getElem h,List.foldl_append]
 rfl
theorem mask_fold (l:List SStroke) (m:Nat) (a:Nat):(l.foldl (fun m y=>m||| 2 ^ y.Actuator.toNat) m).testBit a=(m.testBit a||l.any fun y=>y.Actuator.toNat==a):=by
 induction l generalizing m with
 | nil=>simp
 | cons y l ih=>
  rw [List.foldl_cons,ih,List.any_cons,Nat.testBit_or,Nat.testBit_two_pow]
  cases m.testBit a<;>by_cases h:y.Actuator.toNat=a<;>simp [h]
theorem mask_bit (l:List SStroke) (a:Nat):(mask l).testBit a=l.any fun y=>y.Actuator.toNat==a:=by
 unfold mask;rw [mask_fold];simp
theorem mask_lt (l:List SStroke) (h:∀ k (h:k < l.length),0≤l[k].Actuator∧l[k].Actuator < 6):mask l < 64:=by
 refine Nat.lt_pow_two_of_testBit (n:=6) _ fun a ha=>?_
 rw [mask_bit,List.any_eq_false]
 intro y hy
 obtain ⟨k,hk,rfl⟩:=List.getElem_of_mem hy
 have:=h k hk
 simp;omega
theorem bits_idx {a:Int} (h0:0≤a) (h1:a < 6):idx ([1,2,4,8,16,32]:List Int) a=some ((2 ^ a.toNat:Nat):Int):=by
 have:a=0∨a=1∨a=2∨a=3∨a=4∨a=5:=by omega
 rcases this with rfl | rfl | rfl | rfl | rfl | rfl<;>rfl
theorem m253_eq {x:SStep} (h:StepOk x):m253 x=some (mask x.Strokes:Int):=by
 have hle:=h.le
 unfold m253
 rw [iter_fold (fun k:Nat=>((mask (x.Strokes.take k):Int),(k:Int))) x.Strokes.length ?hn (mask x.Strokes:Int) ?h0 ?h ?he]
 case hn=>unfold fuel;omega
 case h0=>rfl
 case he=>
  try dsimp only
  rw [cond_f (lt_f (by omega)),List.take_of_length_le (Nat.le_refl _)]
 case h=>
  intro k hk
  try dsimp only
  obtain ⟨h1,h2⟩:=h.act k hk
  rw [cond_t (lt_t (by omega)),idx_lt hk]
  simp only [Option.bind_some]
  rw [bits_idx h1 h2]
  simp only [Option.bind_some]
  have hm:mask (x.Strokes.take k) < 64:=mask_lt _ fun i hi=>by
   simp only [List.getElem_take];exact h.act i (by simp at hi;omega)
  have hp:2 ^ x.Strokes[k].Actuator.toNat < 18446744073709551616:=Nat.pow_lt_pow_right (a:=2) (by omega) (show x.Strokes[k].Actuator.toNat < 64 by omega)
  rw [orI_nat (by omega) hp,addI_nat (by omega),mask_take hk]
 rfl
def share (s:SSequence) (x y:SStep):Bool:=(List.range s.Actuators.toNat).any fun a=>hasA x (a:Int)&&hasA y (a:Int)
theorem hasA_bit {x:SStep} (h:StepOk x) (a:Nat):hasA x (a:Int)=(mask x.Strokes).testBit a:=by
 rw [mask_bit]
 unfold hasA
 rw [Bool.eq_iff_iff,List.any_eq_true,List.any_eq_true]
 constructor
 ·rintro ⟨y,hy,e⟩
  refine ⟨y,hy,?_⟩
  simp at e ⊢;omega
 ·rintro ⟨y,hy,e⟩
  refine ⟨y,hy,?_⟩
  obtain ⟨k,hk,rfl⟩:=List.getElem_of_mem hy
  have:=h.act k hk
  simp at e ⊢;omega
theorem hasA_lt {s:SSequence} {x:SStep} (h:StepIn s x) {a:Nat} (ha:hasA x (a:Int)=true):a < s.Actuators.toNat:=by
 unfold hasA at ha
 rw [List.any_eq_true] at ha
 obtain ⟨y,hy,e⟩:=ha
 obtain ⟨k,hk,rfl⟩:=List.getElem_of_mem hy
 have:=h.far k hk
 simp at e
 omega
theorem mask_and_zero {a b:Nat}:a&&& b=0↔∀ i,¬(a.testBit i=true∧b.testBit i=true):=by
 constructor
 ·intro h i hi
  have:=congrArg (fun n=>n.testBit i) h
  simp [Nat.testBit_and,hi.1,hi.2] at this
 ·intro h
  refine Nat.eq_of_testBit_eq fun i=>?_
  rw [Nat.testBit_and,Nat.zero_testBit]
  have:=h i
  cases ha:a.testBit i<;>cases hb:b.testBit i<;>simp_all
theorem share_mask {s:SSequence} {x y:SStep} (hx:StepIn s x) (hy:StepIn s y):share s x y= !decide (mask x.Strokes&&& mask y.Strokes=0):=by
 rw [Bool.eq_iff_iff]
 unfold share
 rw [List.any_eq_true]
 simp only [Bool.not_eq_true',decide_eq_false_iff_not,mask_and_zero,Classical.not_forall,Classical.not_not]
 constructor
 ·rintro ⟨a,_,h⟩
  rw [Bool.and_eq_true] at h
  exact ⟨a,by rw [←hasA_bit hx.ok];exact h.1,by rw [←hasA_bit hy.ok];exact h.2⟩
 ·rintro ⟨a,h1,h2⟩
  rw [←hasA_bit hx.ok] at h1
  rw [←hasA_bit hy.ok] at h2
  exact ⟨a,List.mem_range.2 (hasA_lt hx h1),by rw [h1,h2];rfl⟩
theorem m129_eq {s:SSequence} (h:Right s) {i j:Nat} (hi:i < s.Steps.length) (hj:j < s.Steps.length):m129 s i j=some (share s s.Steps[i] s.Steps[j]):=by
 have hA:=h.a6
 have l1:=(h.step i hi).ok.le
 have l2:=(h.step j hj).ok.le
 unfold m129
 rw [iter_list (List.range s.Actuators.toNat) (fun a=>bif hasA s.Steps[i] (a:Int)&&hasA s.Steps[j] (a:Int) then some true else none) ?hn () ?h0 ?h ?he]
 case hn=>unfold fuel;simp;omega
 case h0=>rfl
 case he=>
  try dsimp only
  rw [cond_f (lt_f (by simp;omega))]
 case h=>
  intro k hk
  have hk':k < s.Actuators.toNat:=by simpa using hk
  try dsimp only
  rw [cond_t (lt_t (by omega)),idx_lt hi]
  simp only [Option.bind_some,List.getElem_range]
  rw [m157_eq _ _ (by omega),addI_nat (by omega)]
  simp only [Option.bind_some,way_ne]
  rw [idx_lt hj]
  simp only [Option.bind_some]
  rw [m157_eq _ _ (by omega)]
  simp only [Option.bind_some,way_ne]
  cases hasA s.Steps[i] (k:Int)<;>cases hasA s.Steps[j] (k:Int)<;>rfl
 rw [findSome_if]
 unfold share
 cases (List.range s.Actuators.toNat).any fun a=>hasA s.Steps[i] (a:Int)&&hasA s.Steps[j] (a:Int)<;>rfl
theorem getD_lt {α:Type} {l:List α} {i:Nat} {d:α} (h:i < l.length):l.getD i d=l[i]:=by simp [List.getD,h]
def stp (s:SSequence) (i:Nat):SStep:=s.Steps.getD (i % s.Steps.length) ⟨[],0⟩
def mk (s:SSequence) (i:Nat):Nat:=mask (stp s i).Strokes
def alone (s:SSequence) (f k:Nat):Bool:=(List.range k).all fun i=>(List.range i).all fun j=>decide (mk s (f+i)&&& mk s (f+j)=0)
def acc (s:SSequence) (f:Nat):Nat→Nat
 | 0=>0
 | k+1=>acc s f k||| mk s (f+k)
theorem stp_eq {s:SSequence} (h:Right s) (i:Nat):∃ hi:i % s.Steps.length < s.Steps.length,stp s i=s.Steps[i % s.Steps.length]:=by
 have:=h.n0
 have hi:=Nat.mod_lt i this
 exact ⟨hi,by unfold stp;rw [getD_lt hi]⟩
theorem stp_in {s:SSequence} (h:Right s) (i:Nat):StepIn s (stp s i):=by
 obtain ⟨hi,e⟩:=stp_eq h i
 rw [e];exact h.step _ hi
theorem stp_lt {s:SSequence} {i:Nat} (hi:i < s.Steps.length):stp s i=s.Steps[i]:=by
 unfold stp
 have:i % s.Steps.length < s.Steps.length:=by rw [Nat.mod_eq_of_lt hi];exact hi
 rw [getD_lt this]
 congr 1
 exact Nat.mod_eq_of_lt hi
theorem mk_lt {s:SSequence} (h:Right s) (i:Nat):mk s i < 64:=mask_lt _ (stp_in h i).ok.act
theorem acc_lt {s:SSequence} (h:Right s) (f:Nat):∀ k,acc s f k < 64
 | 0=>by simp [acc]
 | k+1=>Nat.or_lt_two_pow (n:=6) (acc_lt h f k) (mk_lt h _)
theorem alone_iff {s:SSequence} {f k:Nat}:alone s f k=true↔∀ i,i < k→∀ j,j < i→mk s (f+i)&&& mk s (f+j)=0:=by
 simp [alone,List.all_eq_true]
theorem alone_mono {s:SSequence} {f k m:Nat} (h:alone s f k=true) (hm:m≤k):alone s f m=true:=by
 rw [alone_iff] at h ⊢
 intro i hi j hj
 exact h i (by omega) j hj
theorem acc_bit (s:SSequence) (f a:Nat):∀ k,(acc s f k).testBit a=(List.range k).any fun i=>(mk s (f+i)).testBit a
 | 0=>by simp [acc]
 | k+1=>by rw [acc,Nat.testBit_or,acc_bit s f a k,List.range_succ,List.any_append];simp
theorem acc_bit_iff {s:SSequence} {f k a:Nat}:(acc s f k).testBit a=true↔∃ i,i < k∧(mk s (f+i)).testBit a=true:=by
 rw [acc_bit,List.any_eq_true]
 constructor
 ·rintro ⟨i,hi,h⟩;exact ⟨i,List.mem_range.1 hi,h⟩
 ·rintro ⟨i,hi,h⟩;exact ⟨i,List.mem_range.2 hi,h⟩
theorem acc_zero {s:SSequence} {f k x:Nat}:acc s f k&&& x=0↔∀ i,i < k→mk s (f+i)&&& x=0:=by
 constructor
 ·intro h i hi
  rw [mask_and_zero] at h ⊢
  intro a ha
  exact h a ⟨acc_bit_iff.2 ⟨i,hi,ha.1⟩,ha.2⟩
 ·intro h
  rw [mask_and_zero]
  intro a ha
  obtain ⟨i,hi,hb⟩:=acc_bit_iff.1 ha.1
  exact (mask_and_zero.1 (h i hi)) a ⟨hb,ha.2⟩
theorem alone_succ {s:SSequence} {f k:Nat}:alone s f (k+1)=true↔alone s f k=true∧acc s f k&&& mk s (f+k)=0:=by
 rw [acc_zero]
 constructor
 ·intro h
  refine ⟨alone_mono h (by omega),fun i hi=>?_⟩
  rw [Nat.and_comm]
  exact alone_iff.1 h k (by omega) i hi
 ·rintro ⟨h1,h2⟩
  rw [alone_iff] at h1 ⊢
  intro i hi j hj
  by_cases e:i=k
  ·subst e;rw [Nat.and_comm];exact h2 j hj
  ·exact h1 i (by omega) j hj
theorem remc_nat {x n:Nat} (h:0 < n):remc (x:Int) (n:Int)=some ((x % n:Nat):Int):=by
 unfold remc
 rw [if_neg (by omega)]
 rfl
def onceG (s:SSequence) (f:Nat) (k:Nat):Option (Int×Bool):=if acc s f k&&& mk s (f+k)=0 then none else some ((acc s f k:Int),false)
theorem first_once {s:SSequence} {f:Nat}:∀ k,(alone s f k=true→first k (onceG s f)=none)∧(alone s f k=false→∃ m,first k (onceG s f)=some (m,false)):=by
 intro k
 constructor
 ·intro h
  rw [first_none_iff]
  intro j hj
  unfold onceG
  rw [if_pos (alone_succ.1 (alone_mono h hj)).2]
 ·intro h
  cases hf:first k (onceG s f) with
  | none=>
   exfalso
   rw [first_none_iff] at hf
   have:∀ j,j≤k→alone s f j=true:=by
    intro j
    induction j with
    | zero=>intro _;rfl
    | succ j ih=>
     intro hj
     refine alone_succ.2 ⟨ih (by omega),?_⟩
     have:=hf j (by omega)
     unfold onceG at this
     refine Classical.byContradiction fun hc=>?_
     rw [if_neg hc] at this;simp at this
   rw [this k (Nat.le_refl _)] at h;simp at h
  | some r=>
   unfold first at hf
   obtain ⟨j,_,hj⟩:=List.exists_of_findSome?_eq_some hf
   unfold onceG at hj
   split at hj
   ·simp at hj
   ·injection hj with hj;exact ⟨_,by rw [←hj]⟩
theorem m224_eq {s:SSequence} (h:Right s) (f k:Nat) (hf:f < 1000000) (hk:k < 1000000):∃ m,m224 s (f:Int) (k:Int)=some (m,alone s f k)∧(alone s f k=true→m=(acc s f k:Int)):=by
 unfold m224
 have hn:=h.n0
 have hn64:=h.n64
 rw [iter_first (fun i:Nat=>((acc s f i:Int),(i:Int))) (onceG s f) k ?hn ((acc s f k:Int)) ?h0 ?h ?he]
 case hn=>unfold fuel;omega
 case h0=>rfl
 case he=>
  intro _
  try dsimp only
  rw [cond_f (lt_f (by omega))]
 case h=>
  intro i hi _
  try dsimp only
  have hlt:=Nat.mod_lt (f+i) hn
  rw [cond_t (lt_t (by omega)),show addI .i64 (f:Int) (i:Int)=((f+i:Nat):Int) by rw [addI_eq (by omega) (by omega)];omega,remc_nat hn]
  simp only [Option.bind_some]
  rw [idx_lt hlt]
  simp only [Option.bind_some]
  obtain ⟨_,e⟩:=stp_eq h (f+i)
  rw [m253_eq (h.step _ hlt).ok,←e]
  simp only [Option.bind_some]
  have b1:=acc_lt h f i
  have b2:=mk_lt h (f+i)
  have e2:mask (stp s (f+i)).Strokes=mk s (f+i):=rfl
  rw [e2,andI_nat (by omega) (by omega),orI_nat (by omega) (by omega),addI_nat (by omega)]
  unfold onceG
  by_cases hz:acc s f i&&& mk s (f+i)=0
  ·rw [if_pos hz,hz];rfl
  ·rw [if_neg hz,cond_t (by simp;omega)]
 obtain ⟨h1,h2⟩:=first_once (s:=s) (f:=f) k
 cases ha:alone s f k with
 | true=>rw [h1 ha];exact ⟨_,rfl,fun _=>rfl⟩
 | false=>
  obtain ⟨m,hm⟩:=h2 ha
  rw [hm];exact ⟨_,rfl,fun h=>by simp at h⟩
theorem share_mk {s:SSequence} (h:Right s) (i j:Nat):share s (stp s i) (stp s j)= !decide (mk s i&&& mk s j=0):=share_mask (stp_in h i) (stp_in h j)
end G33
end
section
namespace G33
open Go Go.Pl
set_option linter.unusedVariables false
set_option linter.unusedSimpArgs false
def gre (s:SSequence) (f0:Nat):Nat→List Nat×Nat
 | 0=>([f0],0)
 | i+1=>if alone s ((gre s f0 i).1.getD ((gre s f0 i).1.length - 1) 0) ((gre s f0 i).2+1)=true then ((gre s f0 i).1,(gre s f0 i).2+1) else ((gre s f0 i).1++[f0+i],1)
structure Greedy (s:SSequence) (f0 i:Nat) (o:List Nat) (z:Nat):Prop where
 ne:0 < o.length
 le:o.length≤i+1
 hd:o.getD 0 0=f0
 sz:o.getD (o.length - 1) 0+z=f0+i
 al:alone s (o.getD (o.length - 1) 0) z=true
 zp:0 < i→0 < z
 inc:∀ j,j+1 < o.length→o.getD j 0 < o.getD (j+1) 0
 st:∀ j,j+1 < o.length→alone s (o.getD j 0) (o.getD (j+1) 0 - o.getD j 0)=true∧alone s (o.getD j 0) (o.getD (j+1) 0 - o.getD j 0+1)=false
theorem alone_one (s:SSequence) (f:Nat):alone s f 1=true:=by
 rw [alone_iff];intro i hi j hj;omega
theorem getD_app {o:List Nat} {x j:Nat} (h:j < o.length):(o++[x]).getD j 0=o.getD j 0:=by
 rw [getD_lt (by simp;omega),getD_lt h,List.getElem_append_left h]
theorem getD_end (o:List Nat) (x:Nat):(o++[x]).getD o.length 0=x:=by
 rw [getD_lt (by simp)];simp
theorem greedy (s:SSequence) (f0:Nat):∀ i,Greedy s f0 i (gre s f0 i).1 (gre s f0 i).2
 | 0=>⟨by simp [gre],by simp [gre],rfl,rfl,by rw [alone_iff];intro i hi;simp [gre] at hi,by omega,fun j hj=>by simp [gre] at hj,fun j hj=>by simp [gre] at hj⟩
 | i+1=>by
  have h:=greedy s f0 i
  rw [gre]
  by_cases ha:alone s ((gre s f0 i).1.getD ((gre s f0 i).1.length - 1) 0) ((gre s f0 i).2+1)=true
  ·rw [if_pos ha]
   have:=h.le
   have:=h.sz
   exact ⟨h.ne,by dsimp only;omega,h.hd,by dsimp only;omega,ha,fun _=>by dsimp only;omega,h.inc,h.st⟩
  ·rw [if_neg ha]
   have hne:=h.ne
   have hle:=h.le
   have hsz:=h.sz
   have hi0:0 < i:=by
    refine Nat.pos_of_ne_zero fun hc=>?_
    subst hc
    exact ha (alone_one _ _)
   have hz:=h.zp hi0
   refine ⟨by simp,by simp;omega,?_,?_,?_,fun _=>by simp,?_,?_⟩
   ·rw [getD_app hne];exact h.hd
   ·simp only [List.length_append,List.length_singleton,Nat.add_sub_cancel]
    rw [getD_end];omega
   ·exact alone_one _ _
   ·intro j hj
    simp only [List.length_append,List.length_singleton] at hj
    dsimp only
    rw [getD_app (show j < (gre s f0 i).1.length by omega)]
    by_cases e:j+1 < (gre s f0 i).1.length
    ·rw [getD_app e];exact h.inc j e
    ·have:j+1=(gre s f0 i).1.length:=by omega
     rw [this,getD_end]
     have e2:j=(gre s f0 i).1.length - 1:=by omega
     rw [e2];omega
   ·intro j hj
    simp only [List.length_append,List.length_singleton] at hj
    dsimp only
    rw [getD_app (show j < (gre s f0 i).1.length by omega)]
    by_cases e:j+1 < (gre s f0 i).1.length
    ·rw [getD_app e];exact h.st j e
    ·have:j+1=(gre s f0 i).1.length:=by omega
     rw [this,getD_end]
     have e2:j=(gre s f0 i).1.length - 1:=by omega
     rw [e2]
     have e3:f0+i - (gre s f0 i).1.getD ((gre s f0 i).1.length - 1) 0=(gre s f0 i).2:=by omega
     rw [e3]
     exact ⟨h.al,by simpa using ha⟩
theorem Greedy.last {s:SSequence} {f0 i:Nat} {o:List Nat} {z:Nat} (h:Greedy s f0 i o z):∀ j,j < o.length→o.getD j 0≤o.getD (o.length - 1) 0:=by
 intro j hj
 have key:∀ d,j+d < o.length→o.getD j 0≤o.getD (j+d) 0:=by
  intro d
  induction d with
  | zero=>intro _;exact Nat.le_refl _
  | succ d ih=>
   intro hd
   have:=ih (by omega)
   have:=h.inc (j+d) hd
   have e:j+(d+1)=j+d+1:=rfl
   rw [e];omega
 have:=key (o.length - 1 - j) (by omega)
 rwa [show j+(o.length - 1 - j)=o.length - 1 by omega] at this
theorem Greedy.big {s:SSequence} {f0 i:Nat} {o:List Nat} {z:Nat} (h:Greedy s f0 i o z):∀ j,j < o.length→f0+j≤o.getD j 0:=by
 intro j
 induction j with
 | zero=>intro _;have:=h.hd;omega
 | succ j ih=>
  intro hj
  have:=ih (by omega)
  have:=h.inc j hj
  omega
def ints (o:List Nat):List Int:=o.map fun x:Nat=>(x:Int)
theorem ints_len (o:List Nat):(ints o).length=o.length:=by simp [ints]
theorem ints_getD (o:List Nat) (j:Nat):(ints o).getD j 0=(o.getD j 0:Int):=by
 by_cases h:j < o.length
 ·rw [getD_lt (by rw [ints_len];exact h),getD_lt h];simp [ints]
 ·simp [ints,List.getD,h]
theorem m164_eq {s:SSequence} (h:Right s) (f0:Nat) (hf:f0 < 1000):m164 s (f0:Int)=some (ints (gre s f0 s.Steps.length).1):=by
 have hn:=h.n64
 unfold m164
 rw [iter_fold (fun i:Nat=>(((gre s f0 i).2:Int),(i:Int),ints (gre s f0 i).1)) s.Steps.length ?hn (ints (gre s f0 s.Steps.length).1) ?h0 ?h ?he]
 case hn=>unfold fuel;omega
 case h0=>rfl
 case he=>
  try dsimp only
  rw [cond_f (lt_f (by omega))]
 case h=>
  intro i hi
  try dsimp only
  have g:=greedy s f0 i
  have hne:=g.ne
  have hle:=g.le
  have hsz:=g.sz
  rw [cond_t (lt_t (by omega)),ints_len,sub_nat hne (by omega),idx_lt (show (gre s f0 i).1.length - 1 < (ints (gre s f0 i).1).length by rw [ints_len];omega)]
  simp only [Option.bind_some]
  rw [←getD_lt (d:=0),ints_getD,addI_nat (by omega)]
  obtain ⟨m,e,_⟩:=m224_eq h ((gre s f0 i).1.getD ((gre s f0 i).1.length - 1) 0) ((gre s f0 i).2+1) (by omega) (by omega)
  rw [e,addI_eq (by omega) (by omega),gre]
  simp only [Option.bind_some]
  cases ha:alone s ((gre s f0 i).1.getD ((gre s f0 i).1.length - 1) 0) ((gre s f0 i).2+1) with
  | true=>
   simp only [Bool.not_true,cond_false,Option.bind_some,if_true]
   rw [addI_nat (by omega),addI_nat (by omega)]
  | false=>
   simp only [Bool.not_false,cond_true,Bool.false_eq_true,if_false]
   rw [appc_eq (by simp only [List.length_singleton,ints_len];omega) (by simp only [List.length_singleton,ints_len];omega)]
   simp only [Option.bind_some]
   rw [addI_nat (by omega),show addI .i64 0 1=(((0+1:Nat)):Int) from addI_nat (k:=0) (by omega)]
   simp [ints]
 rfl
def few (s:SSequence):List Int:=ints (gre s 0 s.Steps.length).1
theorem m101_eq (s:SSequence):m101 s=some (if chk s=0 then (few s,0) else ([],chk s)):=by
 unfold m101
 rw [m81_eq]
 simp only [Option.bind_some]
 by_cases h0:chk s=0
 ·rw [cond_f (by simpa using h0),if_pos h0,show (0:Int)=((0:Nat):Int) from rfl,m164_eq (chk_right h0) 0 (by omega)]
  rfl
 ·rw [cond_t (by simpa using h0),if_neg h0]
end G33
end
