/- Parts of my machine and its laws, joined: P32d P32e P32f P32g P32h P32i P32b P32a P32j P32l P32m. No condition. -/
import Derived.Test.YtafgdbaekppjcaaGreatDoorG33g
import Derived.KernelRfl
import Derived.Test.YtafgdbaekppjcaaGreatDoorG33M
set_option linter.unusedSectionVars false
set_option linter.unusedVariables false
set_option linter.unusedSimpArgs false
section
namespace G33
open Go Go.Pl
def Small (s:SSequence):Prop:=s.Steps.length≤9223372036854775807∧∀ x∈s.Steps,x.Strokes.length≤9223372036854775807
theorem m49_eq (s:SSequence) (hs:Small s):m49 s=some (chk s):=by
 unfold m49 chk
 rw [or_b];simp only [Option.bind_some]
 by_cases h1:s.Actuators < 1∨6 < s.Actuators
 ·rw [cond_t (by simp only [Bool.or_eq_true,decide_eq_true_eq];omega),if_pos h1]
 rw [cond_f (by simp only [Bool.or_eq_false_iff,decide_eq_false_iff_not];omega),if_neg h1]
 by_cases h2:s.Steps.length=0
 ·rw [cond_t (by simpa using h2),if_pos h2]
 rw [cond_f (by simpa using h2),if_neg h2]
 by_cases h3:64 < s.Steps.length
 ·rw [cond_t (by simp;omega),if_pos h3]
 rw [cond_f (by simp;omega),if_neg h3,m91_eq s (by omega) (by omega) (by omega)]
 simp only [Option.bind_some]
 unfold seqE
 cases hf:first s.Steps.length (seqG s) with
 | some r=>
  have hr:r≠0:=by
   unfold first at hf
   obtain ⟨k,_,hk⟩:=List.exists_of_findSome?_eq_some hf
   unfold seqG at hk
   split at hk
   ·simp at hk
   ·split at hk
    ·rename_i h;injection hk with hk;rw [←hk];exact h
    ·simp at hk
  simp only
  rw [cond_t (by simpa using hr)]
 | none=>
  simp only
  by_cases h9:(List.range s.Actuators.toNat).any (ends s s.Steps.length)=true
  ·rw [if_pos h9,if_pos h9];rfl
  rw [if_neg h9,if_neg h9,cond_f (by rfl)]
  rw [iter_list (List.range s.Actuators.toNat) (fun a=>bif !moved s s.Steps.length a then some 13 else none) ?hn () ?h0 ?h ?he]
  case hn=>unfold fuel;simp;omega
  case h0=>rfl
  case he=>
   try dsimp only
   rw [cond_f (lt_f (by simp;omega))]
  case h=>
   intro k hk
   have hk':k < s.Actuators.toNat:=by simpa using hk
   try dsimp only
   rw [cond_t (lt_t (by omega)),m92_eq s _ hs.1 hs.2]
   simp only [Option.bind_some,List.getElem_range]
   rw [addI_nat (by omega),moved_eq s k _ (Nat.le_refl _),List.take_of_length_le (Nat.le_refl _)]
   cases s.Steps.any fun x=>hasA x (k:Int)<;>rfl
  rw [findSome_if]
  have:(List.range s.Actuators.toNat).any (fun a=> !moved s s.Steps.length a)= !(List.range s.Actuators.toNat).all (moved s s.Steps.length):=by
   rw [List.not_all_eq_any_not]
  rw [this]
  cases (List.range s.Actuators.toNat).all (moved s s.Steps.length)<;>rfl
theorem mvs_take {l:List SStroke} {k:Nat} (h:k < l.length) (e:Nat→Bool):mvs (l.take (k+1)) e=fun a:Nat=>if l[k].Actuator=(a:Int) then true else mvs (l.take k) e a:=by
 unfold mvs
 rw [List.take_add_one,List.getElem?_eq_getElem h,List.foldl_append]
 rfl
theorem m141_eq (l:List Bool) (hl:l.length≤6):m141 l false=some (l.any fun b=>b==false):=by
 unfold m141 m213
 rw [iter_first (fun k:Nat=>(k:Int)) (fun k=>match l[k]? with | some b=>bif b==false then some (k:Int) else none | none=>none) l.length ?hn () ?h0 ?h ?he]
 case hn=>unfold fuel;omega
 case h0=>rfl
 case he=>
  intro _
  try dsimp only
  rw [cond_f (lt_f (by omega))]
 case h=>
  intro k hk _
  try dsimp only
  rw [cond_t (lt_t (by omega)),idx_lt hk,List.getElem?_eq_getElem hk]
  simp only [Option.bind_some]
  rw [addI_nat (by omega)]
  cases l[k]<;>rfl
 cases hf:first l.length (fun k=>match l[k]? with | some b=>bif b==false then some (k:Int) else none | none=>none) with
 | none=>
  rw [first_none_iff] at hf
  have:(l.any fun b=>b==false)=false:=by
   rw [List.any_eq_false]
   intro b hb
   obtain ⟨k,hk,rfl⟩:=List.getElem_of_mem hb
   have:=hf k hk
   rw [List.getElem?_eq_getElem hk] at this
   dsimp only at this
   intro hc
   rw [hc] at this
   simp at this
  rw [this];rfl
 | some r=>
  unfold first at hf
  obtain ⟨k,hk,hr⟩:=List.exists_of_findSome?_eq_some hf
  have hk':k < l.length:=by simpa using hk
  rw [List.getElem?_eq_getElem hk'] at hr
  dsimp only at hr
  cases hb:l[k]==false with
  | false=>rw [hb] at hr;simp at hr
  | true=>
   rw [hb] at hr
   simp only [cond_true,Option.some.injEq] at hr
   have:(l.any fun b=>b==false)=true:=by
    rw [List.any_eq_true]
    exact ⟨l[k],List.getElem_mem hk',hb⟩
   rw [this]
   subst hr
   simp only [Option.bind_some,Sum.elim_inr]
   simp
theorem m81_eq (s:SSequence):m81 s=some (chk s):=by
 unfold m81 chk
 rw [or_b];simp only [Option.bind_some]
 by_cases h1:s.Actuators < 1∨6 < s.Actuators
 ·rw [cond_t (by simp only [Bool.or_eq_true,decide_eq_true_eq];omega),if_pos h1]
 rw [cond_f (by simp only [Bool.or_eq_false_iff,decide_eq_false_iff_not];omega),if_neg h1]
 by_cases h2:s.Steps.length=0
 ·rw [cond_t (by simpa using h2),if_pos h2]
 rw [cond_f (by simpa using h2),if_neg h2]
 by_cases h3:64 < s.Steps.length
 ·rw [cond_t (by simp;omega),if_pos h3]
 rw [cond_f (by simp;omega),if_neg h3]
 rw [iter_first (fun k:Nat=>((k:Int),arrOf (ends s k),arrOf (moved s k))) (seqG s) s.Steps.length ?hn (arrOf (ends s s.Steps.length),arrOf (moved s s.Steps.length)) ?h0 ?h ?he]
 case hn=>unfold fuel;omega
 case h0=>rfl
 case he=>
  intro _
  try dsimp only
  rw [cond_f (lt_f (by omega))]
 case h=>
  intro k hk hj
  try dsimp only
  rw [cond_t (lt_t (by omega)),idx_lt hk]
  simp only [Option.bind_some]
  rw [m139_eq]
  simp only [Option.bind_some]
  by_cases e0:stE s s.Steps[k] (ends s k)=0
  ·have hg:=seqG_zero hk e0
   obtain ⟨h4,_⟩:=seqG_none hk hg
   have hle:=h4.ok.le
   rw [cond_f (by simpa using e0),hg,m140_eq _ _ h4.ok.le h4.ok.act]
   simp only [Option.bind_some]
   rw [iter_fold (fun i:Nat=>((i:Int),arrOf (upd s.Steps[k].Strokes (ends s k)),arrOf (mvs (s.Steps[k].Strokes.take i) (moved s k)))) s.Steps[k].Strokes.length ?hn (arrOf (upd s.Steps[k].Strokes (ends s k)),arrOf (moved s (k+1))) ?h0 ?h ?he]
   case hn=>unfold fuel;omega
   case h0=>rfl
   case he=>
    try dsimp only
    rw [cond_f (lt_f (by omega)),List.take_of_length_le (Nat.le_refl _),moved_succ hk]
   case h=>
    intro i hi
    try dsimp only
    obtain ⟨h5,h6⟩:=h4.ok.act i hi
    rw [cond_t (lt_t (by omega)),idx_lt hi]
    simp only [Option.bind_some]
    rw [arrOf_idx _ h5 h6]
    simp only [Option.bind_some]
    rw [arrOf_put _ _ _ h5,addI_nat (by omega),mvs_take hi]
   simp only [Option.bind_some]
   rw [addI_nat (by omega),ends_succ hk]
  ·rw [cond_t (by simpa using e0),seqG_some hk rfl e0]
 cases hf:first s.Steps.length (seqG s) with
 | some r=>rfl
 | none=>
  simp only [Option.bind_some,Sum.elim_inl]
  have hfar:∀ a:Nat,s.Actuators≤a→ends s s.Steps.length a=false:=fun a ha=>ends_far ha _ (Nat.le_refl _) (fun j hj=>(first_none_iff.1 hf) j hj)
  have he:((arrOf (ends s s.Steps.length)).1==(Arr.rep 6 false).1)= !(List.range s.Actuators.toNat).any (ends s s.Steps.length):=by
   have hz:((arrOf (ends s s.Steps.length)).1=(Arr.rep 6 false).1)↔(List.range s.Actuators.toNat).any (ends s s.Steps.length)=false:=by
    rw [List.any_eq_false]
    constructor
    ·intro h a ha
     have ha':a < s.Actuators.toNat:=List.mem_range.1 ha
     have:=congrArg (fun l=>l[a]?) h
     have h6:a < 6:=by omega
     have h7:(arrOf (ends s s.Steps.length)).1[a]?=some (ends s s.Steps.length a):=by
      simp only [arrOf,List.getElem?_map,List.getElem?_range h6,Option.map_some]
     have h8:(Arr.rep 6 false).1[a]?=some false:=by
      simp only [Arr.rep,List.getElem?_replicate,if_pos h6]
     simp only [h7,h8,Option.some.injEq] at this
     simp [this]
    ·intro h
     apply List.ext_getElem
     ·simp [arrOf,Arr.rep]
     ·intro a h1 h2
      simp only [arrOf,Arr.rep,List.getElem_map,List.getElem_range,List.getElem_replicate]
      by_cases ha:a < s.Actuators.toNat
      ·have:=h a (List.mem_range.2 ha);simpa using this
      ·exact hfar a (by omega)
   cases hb:(List.range s.Actuators.toNat).any (ends s s.Steps.length) with
   | false=>rw [hz.2 hb];simp
   | true=>
    rw [Bool.not_true,beq_eq_false_iff_ne]
    intro hc
    rw [hz.1 hc] at hb;simp at hb
  rw [show ([false,false,false,false,false,false]:List Bool)=(Arr.rep 6 false).1 from rfl,he]
  by_cases h9:(List.range s.Actuators.toNat).any (ends s s.Steps.length)=true
  ·rw [if_pos h9,h9];rfl
  ·rw [if_neg h9]
   simp only [Bool.not_eq_true] at h9
   rw [h9]
   have hsl:slcc (arrOf (moved s s.Steps.length)).1 none (some s.Actuators)=some ((List.range s.Actuators.toNat).map (moved s s.Steps.length)):=by
    unfold slcc
    rw [if_pos ⟨by simp,by simp;omega,by simp [arrOf];omega⟩]
    congr 1
    apply List.ext_getElem
    ·simp [arrOf];omega
    ·intro i h1 h2;simp [arrOf]
   simp only [Bool.not_false,bne_self_eq_false,cond_false]
   rw [hsl]
   have hl:List.take (s.Actuators.toNat - 0) (List.drop 0 (arrOf (moved s s.Steps.length)).1)=(List.range s.Actuators.toNat).map (moved s s.Steps.length):=by
    apply List.ext_getElem
    ·simp [arrOf];omega
    ·intro i h1 h2;simp [arrOf]
   simp only [Option.bind_some]
   rw [if_pos (by omega),hl,m141_eq _ (by simp;omega)]
   simp only [Option.bind_some,List.any_map]
   have:(List.range s.Actuators.toNat).any ((fun b=>b==false) ∘ moved s s.Steps.length)= !(List.range s.Actuators.toNat).all (moved s s.Steps.length):=by
    rw [List.not_all_eq_any_not]
    congr 1
    funext a
    simp
   rw [this]
   cases (List.range s.Actuators.toNat).all (moved s s.Steps.length)<;>rfl
end G33
end
section
namespace G33
open Go Go.Pl
set_option linter.unusedVariables false
set_option linter.unusedSimpArgs false
def cnt (s:SSequence) (k:Nat):Nat:=((s.Steps.take k).filter (fun x=>x.Wait !=0)).length
def tmAt (s:SSequence) (n:Int) (k:Nat):Int:=match s.Steps[k]? with
 | some x=>if x.Wait=0 then -1 else n+(cnt s k:Int)
 | none=>0
def tms (s:SSequence) (n:Int) (k:Nat):List Int:=(List.range k).map (tmAt s n)
theorem cnt_succ {s:SSequence} {k:Nat} (h:k < s.Steps.length):cnt s (k+1)=if s.Steps[k].Wait=0 then cnt s k else cnt s k+1:=by
 unfold cnt
 rw [List.take_add_one,List.getElem?_eq_getElem h,List.filter_append]
 by_cases hw:s.Steps[k].Wait=0
 ·rw [if_pos hw];simp [hw]
 ·rw [if_neg hw];simp [hw]
theorem cnt_le (s:SSequence) (k:Nat):cnt s k≤s.Steps.length:=by
 unfold cnt
 exact Nat.le_trans (List.length_filter_le _ _) (by rw [List.length_take];omega)
theorem tms_succ {s:SSequence} {n:Int} {k:Nat}:tms s n (k+1)=tms s n k++[tmAt s n k]:=by
 unfold tms;rw [List.range_succ,List.map_append];rfl
theorem m130_eq (s:SSequence) (n:Int) (hs:s.Steps.length≤64) (h0:0≤n) (h1:n < 1000000):m130 s n=some ⟨s,tms s n s.Steps.length⟩:=by
 unfold m130
 rw [iter_fold (fun k:Nat=>(n+(cnt s k:Int),(k:Int),(0:Int),([]:List SStep),([]:List Int),s.Actuators,s.Steps,tms s n k)) s.Steps.length ?hn ((0:Int),([]:List SStep),([]:List Int),s.Actuators,s.Steps,tms s n s.Steps.length) ?h0 ?h ?he]
 case hn=>unfold fuel;omega
 case h0=>simp [cnt,tms]
 case he=>
  try dsimp only
  rw [cond_f (lt_f (by omega))]
 case h=>
  intro k hk
  try dsimp only
  have hc:=cnt_le s k
  have hlen:(tms s n k).length=k:=by simp [tms]
  rw [cond_t (lt_t (by omega)),idx_lt hk]
  simp only [Option.bind_some]
  rw [appc_eq (by simp [hlen];omega) (by simp [hlen];omega),appc_eq (by simp [hlen];omega) (by simp [hlen];omega)]
  have ht:tmAt s n k=if s.Steps[k].Wait=0 then -1 else n+(cnt s k:Int):=by
   unfold tmAt;rw [List.getElem?_eq_getElem hk]
  by_cases hw:s.Steps[k].Wait=0
  ·rw [cond_t (by simpa using hw)]
   simp only [Option.bind_some]
   rw [tms_succ,ht,if_pos hw,cnt_succ hk,if_pos hw,addI_nat (by omega)]
  ·rw [cond_f (by simpa using hw)]
   simp only [Option.bind_some]
   rw [tms_succ,ht,if_neg hw,cnt_succ hk,if_neg hw,addI_nat (by omega),addI_eq (by omega) (by omega)]
   rw [show n+(cnt s k:Int)+1=n+((cnt s k+1:Nat):Int) by omega]
 simp only [Option.bind_some]
end G33
end
section
namespace G33
open Go Go.Pl
set_option linter.unusedVariables false
set_option linter.unusedSimpArgs false
def mods (f:Int) (k:Nat):List Int:=(List.range k).map fun j:Nat=>f+(j:Int)
theorem mods_succ {f:Int} {k:Nat}:mods f (k+1)=mods f k++[f+(k:Int)]:=by
 unfold mods;rw [List.range_succ,List.map_append];rfl
def fst (s:SSequence):Int:=2*s.Actuators+1
end G33
end
section
namespace G33
open Go Go.Pl
set_option linter.unusedVariables false
set_option linter.unusedSimpArgs false
theorem fst_eq {s:SSequence} (h0:1≤s.Actuators) (h1:s.Actuators≤6):addI .i64 (mulI .i64 2 s.Actuators) 1=fst s:=by
 have:mulI .i64 2 s.Actuators=2*s.Actuators:=by unfold mulI;exact wrap_i64 (by omega) (by omega)
 rw [this,addI_eq (by omega) (by omega)];rfl
theorem fst_le {s:SSequence} (h0:1≤s.Actuators) (h1:s.Actuators≤6):3≤fst s∧fst s≤13:=by unfold fst;omega
theorem tmAt_eq {s:SSequence} {n:Int} {k:Nat} (hk:k < s.Steps.length):tmAt s n k=if s.Steps[k].Wait=0 then -1 else n+(cnt s k:Int):=by
 unfold tmAt;rw [List.getElem?_eq_getElem hk]
theorem tmAt_nonneg {s:SSequence} {n:Int} {k:Nat} (hk:k < s.Steps.length) (hn:0≤n):decide (tmAt s n k≥0)=(s.Steps[k].Wait !=0):=by
 have e:=tmAt_eq (n:=n) hk
 by_cases hw:s.Steps[k].Wait=0
 ·rw [if_pos hw] at e
  have:decide (tmAt s n k≥0)=false:=by simp only [decide_eq_false_iff_not];omega
  rw [this];simp [hw]
 ·rw [if_neg hw] at e
  have:decide (tmAt s n k≥0)=true:=by simp only [decide_eq_true_eq];omega
  rw [this];simp [hw]
theorem m75_eq (s:SSequence) (n:Int) (hn:0≤n) (hs:s.Steps.length≤64):m75 ⟨s,tms s n s.Steps.length⟩=some (cnt s s.Steps.length:Int):=by
 unfold m75
 have hlen:(tms s n s.Steps.length).length=s.Steps.length:=by simp [tms]
 rw [iter_fold (fun k:Nat=>((cnt s k:Int),(k:Int))) s.Steps.length ?hn (cnt s s.Steps.length:Int) ?h0 ?h ?he]
 case hn=>unfold fuel;omega
 case h0=>simp [cnt]
 case he=>
  try dsimp only
  rw [cond_f (lt_f (by omega))]
 case h=>
  intro k hk
  try dsimp only
  have hc:=cnt_le s k
  have hg:(tms s n s.Steps.length)[k]'(by omega)=tmAt s n k:=by simp [tms]
  rw [cond_t (lt_t (by omega)),idx_lt (show k < (tms s n s.Steps.length).length by omega),hg]
  simp only [Option.bind_some]
  rw [tmAt_nonneg hk hn]
  by_cases hw:s.Steps[k].Wait=0
  ·rw [cond_f (by simp [hw]),cnt_succ hk,if_pos hw,addI_nat (by omega)];rfl
  ·rw [cond_t (by simpa using hw),cnt_succ hk,if_neg hw,addI_nat (by omega),addI_nat (by omega)];rfl
 rfl
end G33
end
section
namespace G33
open Go Go.Pl
set_option linter.unusedVariables false
set_option linter.unusedSimpArgs false
def lineE (n:Int):SExpr:=⟨1,n,[]⟩
def swE (x:SStroke):SExpr:=lineE (2*x.Actuator+if x.Out then 1 else 0)
def sws (l:List SStroke) (k:Nat):List SExpr:=(l.take k).map swE
theorem sws_succ {l:List SStroke} {k:Nat} (h:k < l.length):sws l (k+1)=sws l k++[swE l[k]]:=by
 unfold sws;rw [List.take_add_one,List.getElem?_eq_getElem h,List.map_append];rfl
theorem sws_all (l:List SStroke):sws l l.length=l.map swE:=by unfold sws;rw [List.take_length]
theorem m171_line (n:Int):m171 n=some (lineE n):=rfl
theorem m147_line (n:Int):m147 n=some (lineE n):=rfl
theorem m151_eq (x:SStep) (h:StepOk x):m151 x=some (x.Strokes.map swE):=by
 have hle:=h.le
 unfold m151
 rw [iter_fold (fun k:Nat=>((k:Int),sws x.Strokes k)) x.Strokes.length ?hn (x.Strokes.map swE) ?h0 ?h ?he]
 case hn=>unfold fuel;omega
 case h0=>simp [sws]
 case he=>
  try dsimp only
  rw [cond_f (lt_f (by omega)),sws_all]
 case h=>
  intro k hk
  try dsimp only
  obtain ⟨h1,h2⟩:=h.act k hk
  have hl:(sws x.Strokes k).length=k:=by simp [sws];omega
  have e0:mulI .i64 2 x.Strokes[k].Actuator=2*x.Strokes[k].Actuator:=by unfold mulI;exact wrap_i64 (by omega) (by omega)
  rw [cond_t (lt_t (by omega)),idx_lt hk]
  simp only [Option.bind_some,m147_line,e0]
  rw [sws_succ hk,addI_nat (by omega)]
  cases ho:x.Strokes[k].Out with
  | true=>
   simp only [cond_true,Option.bind_some]
   rw [addI_eq (by omega) (by omega),appc_eq (by simp [hl];omega) (by simp [hl];omega)]
   simp [swE,ho,lineE]
  | false=>
   simp only [cond_false,Option.bind_some]
   rw [appc_eq (by simp [hl];omega) (by simp [hl];omega)]
   simp [swE,ho,lineE]
 rfl
end G33
end
section
namespace G33
open Go Go.Pl
set_option linter.unusedVariables false
set_option linter.unusedSimpArgs false
def endE (s:SSequence) (n:Int) (k:Nat):List SExpr:=match s.Steps[k]? with
 | some x=>if x.Wait=0 then x.Strokes.map swE else [lineE (tmAt s n k)]
 | none=>[]
theorem tms_idx {s:SSequence} {n:Int} {k:Nat} (hk:k < s.Steps.length):idx (tms s n s.Steps.length) (k:Int)=some (tmAt s n k):=by
 have hlen:(tms s n s.Steps.length).length=s.Steps.length:=by simp [tms]
 rw [idx_lt (by omega)];simp [tms]
theorem m149_eq (s:SSequence) (n:Int) (hn:0≤n) {k:Nat} (hk:k < s.Steps.length) (h:StepOk s.Steps[k]):m149 ⟨s,tms s n s.Steps.length⟩ k=some (endE s n k):=by
 unfold m149 endE
 rw [List.getElem?_eq_getElem hk,tms_idx hk]
 simp only [Option.bind_some,m147_line]
 rw [tmAt_nonneg hk hn]
 by_cases hw:s.Steps[k].Wait=0
 ·rw [cond_f (by simp [hw]),if_pos hw,idx_lt hk]
  simp only [Option.bind_some]
  rw [m151_eq _ h];rfl
 ·rw [cond_t (by simpa using hw),if_neg hw];rfl
end G33
end
section
namespace G33
open Go Go.Pl
set_option linter.unusedVariables false
def num1 (p:List UInt8) (k:Nat):Bool:=decide (m109 p k=(m172 k).bind fun v=>catc p v)&&(m109 p k).isSome
set_option maxRecDepth 100000
theorem num_all:((List.range 100).all fun k=>num1 [103] k&&num1 [115] k&&num1 [119] k)=true:=by kernel_rfl
theorem num_eq {p:List UInt8} (hp:p=[103]∨p=[115]∨p=[119]) {k:Nat} (hk:k < 100):∃ t,m109 p k=some t∧(m172 k).bind (fun v=>catc p v)=some t:=by
 have h:=num_all
 rw [List.all_eq_true] at h
 have h:=h k (List.mem_range.mpr hk)
 rw [Bool.and_eq_true,Bool.and_eq_true] at h
 have:num1 p k=true:=by
  rcases hp with rfl | rfl | rfl
  ·exact h.1.1
  ·exact h.1.2
  ·exact h.2
 unfold num1 at this
 rw [Bool.and_eq_true,decide_eq_true_eq] at this
 obtain ⟨t,ht⟩:=Option.isSome_iff_exists.mp this.2
 exact ⟨t,ht,by rw [←this.1];exact ht⟩
end G33
end
section
namespace G33
open Go Go.Pl
set_option linter.unusedVariables false
set_option linter.unusedSimpArgs false
theorem iter_all {α:Type} {body:Int→Option (Int⊕(Unit⊕α))} (n:Nat) (hn:n < fuel) (h:∀ k:Nat,k < n→body k=some (.inl ((k+1:Nat):Int))) (he:body n=some (.inr (.inl ()))):iter body 0=some (.inl ()):=by
 obtain ⟨r,h1,h2⟩:=iter_cnt (body:=body) n hn (fun _=>True) (fun r=>r= .inl ()) trivial (fun k hk _=>by
  by_cases hkn:k < n
  ·exact .inl ⟨hkn,h k hkn,trivial⟩
  ·have:k=n:=by omega
   subst this;exact .inr ⟨_,he,rfl⟩)
 rw [h1,h2]
theorem m46_refl (l:List (List UInt8)) (h:l.length < fuel) (h2:l.length < 9223372036854775807):m46 l l=some true:=by
 unfold m46
 rw [iter_all l.length h]
 ·simp
 ·intro k hk
  simp [idx_lt hk,hk,addI_nat (Nat.lt_trans hk h2)]
 ·simp
theorem m48_refl (l:List Int) (h:l.length < fuel) (h2:l.length < 9223372036854775807):m48 l l=some true:=by
 unfold m48
 rw [iter_all l.length h]
 ·simp
 ·intro k hk
  simp [idx_lt hk,hk,addI_nat (Nat.lt_trans hk h2)]
 ·simp
@[simp] theorem SExpr.eta3 (e:SExpr):(⟨e.Op,e.Index,e.Args⟩:SExpr)=e:=by cases e;rfl
inductive Nest:Nat→SExpr→Prop
 | mk {n:Nat} {e:SExpr} (h:e.Args.length < 1000) (h2:∀ k (h:k < e.Args.length),Nest n e.Args[k]):Nest (n+1) e
theorem n153_refl:∀ (n m:Nat) (e:SExpr),Nest n e→n≤m→n153 m e e=some true
 | 0,m,e,h,_=>by cases h
 | n+1,0,e,h,hm=>by omega
 | n+1,m+1,e,h,hm=>by
  cases h with
  | mk h h2=>
   rw [n153]
   unfold b153
   rw [iter_all e.Args.length (by unfold fuel;omega)]
   ·simp
   ·intro k hk
    have:=n153_refl n m e.Args[k] (h2 k hk) (by omega)
    simp [idx_lt hk,hk,addI_nat (show k < 9223372036854775807 by omega),this]
   ·simp
inductive Size:Nat→Nat→SExpr→Prop
 | mk {d:Nat} {e:SExpr} (f:Nat→Nat) (h:e.Args.length < 1000) (h2:∀ k (h:k < e.Args.length),Size d (f k) e.Args[k]):Size (d+1) (1+((List.range e.Args.length).map f).sum) e
theorem sum_le (f:Nat→Nat):∀ (n k:Nat),k≤n→((List.range k).map f).sum≤((List.range n).map f).sum
 | 0,k,h=>by have:k=0:=by omega
             subst this;exact Nat.le_refl _
 | n+1,k,h=>by
  rw [List.range_succ,List.map_append,List.sum_append]
  by_cases hk:k=n+1
  ·subst hk;rw [List.range_succ,List.map_append,List.sum_append];exact Nat.le_refl _
  ·exact Nat.le_trans (sum_le f n k (by omega)) (Nat.le_add_right _ _)
theorem n111_size:∀ (d m n a:Nat) (e:SExpr),Size d n e→d≤m→n≤a→a < 100000→n111 m e a=some (n:Int)
 | 0,m,n,a,e,h,_,_,_=>by cases h
 | d+1,0,n,a,e,h,hm,_,_=>by omega
 | d+1,m+1,n,a,e,h,hm,ha,hk=>by
  cases h with
  | mk f h h2=>
   rw [n111]
   unfold b111
   obtain ⟨r,h3,h4⟩:=iter_cnt2 (t0:=(1:Int)) (body:=fun s1:Int×Int=>(((bif (decide (s1.2 < (e.Args.length:Int))) then some (decide (s1.1≤(a:Int))) else some false):Option (Bool)).bind fun w3=>(bif w3 then (idx e.Args s1.2).bind fun v4=>(n111 m (⟨v4.Op,v4.Index,v4.Args⟩:SExpr) (subI .i64 a s1.1)).bind fun v5=>some (.inl ((addI .i64 s1.1 v5),(addI .i64 s1.2 1))) else some (.inr s1.1)):Option ((Int×Int)⊕(Int)))) e.Args.length (by unfold fuel;omega) (fun k t=>t=((1+((List.range k).map f).sum:Nat):Int)) (fun r=>r=((1+((List.range e.Args.length).map f).sum:Nat):Int)) (by simp) (by
    intro k t hkn ht
    subst ht
    have hs:=sum_le f _ _ hkn
    by_cases hl:k < e.Args.length
    ·left
     have hs1:=sum_le f _ _ (show k+1≤e.Args.length from hl)
     have hr:((List.range (k+1)).map f).sum=((List.range k).map f).sum+f k:=by
      rw [List.range_succ,List.map_append,List.sum_append];simp
     rw [hr] at hs1
     have e3:subI .i64 (a:Int) ((1+((List.range k).map f).sum:Nat):Int)=((a - (1+((List.range k).map f).sum):Nat):Int):=by
      have:(a:Int) - ((1+((List.range k).map f).sum:Nat):Int)=((a - (1+((List.range k).map f).sum):Nat):Int):=by omega
      unfold subI;rw [this];exact wrap_i64 (by omega) (by omega)
     have e4:addI .i64 ((1+((List.range k).map f).sum:Nat):Int) ((f k:Nat):Int)=((1+((List.range (k+1)).map f).sum:Nat):Int):=by
      rw [addI_eq (by omega) (by omega),hr];omega
     have:=n111_size d m (f k) (a - (1+((List.range k).map f).sum)) e.Args[k] (h2 k hl) (by omega) (by omega) (by omega)
     refine ⟨_,hl,?_,rfl⟩
     have c1:decide ((k:Int) < (e.Args.length:Int))=true:=by simp;exact hl
     have c2:decide (((1+((List.range k).map f).sum:Nat):Int)≤(a:Int))=true:=by simp only [decide_eq_true_eq];omega
     simp only [c1,c2,cond_true,Option.bind_some,idx_lt hl,SExpr.eta3,e3,this,e4,addI_nat (show k < 9223372036854775807 by omega)]
    ·right
     have:k=e.Args.length:=by omega
     subst this
     have c1:decide ((e.Args.length:Int) < (e.Args.length:Int))=false:=by simp
     exact ⟨_,by simp only [c1,cond_false,Option.bind_some],rfl⟩)
   rw [h3,h4];rfl
theorem n112_deep:∀ (n m d:Nat) (e:SExpr),Nest n e→n≤m→n≤d→d < 1000→n112 m e d=some true
 | 0,m,d,e,h,_,_,_=>by cases h
 | n+1,0,d,e,h,hm,_,_=>by omega
 | n+1,m+1,d,e,h,hm,hd,hk=>by
  cases h with
  | mk h h2=>
   rw [n112]
   unfold b112
   have e1:decide ((d:Int) < 1)=false:=by simp;omega
   rw [e1]
   by_cases hd1:d=1
   ·subst hd1
    have:e.Args.length=0:=by
     cases n with
     | zero=>
      rcases Nat.eq_zero_or_pos e.Args.length with h0 | h0
      ·exact h0
      ·exact absurd (h2 0 h0) (by intro h;cases h)
     | succ n=>omega
    simp [this]
   ·have e2:((d:Int)==1)=false:=by simp;omega
    rw [e2]
    simp only [cond_false]
    rw [iter_all e.Args.length (by unfold fuel;omega)]
    ·simp
    ·intro k hk
     have e3:subI .i64 (d:Int) 1=((d - 1:Nat):Int):=by
      have:(d:Int) - 1=((d - 1:Nat):Int):=by omega
      unfold subI;rw [this];exact wrap_i64 (by omega) (by omega)
     have:=n112_deep n m (d - 1) e.Args[k] (h2 k hk) (by omega) (by omega) (by omega)
     simp [idx_lt hk,hk,addI_nat (show k < 9223372036854775807 by omega),e3,this]
    ·simp
theorem m63_light {d n:Nat} {e:SExpr} (h1:Size d n e) (h2:Nest d e) (hd:d≤16) (hn:n≤256):m63 e=some true:=by
 have e1:=n111_size d fuel n 256 e h1 (by unfold fuel;omega) hn (by omega)
 have e2:=n112_deep d fuel 16 e h2 (by unfold fuel;omega) hd (by omega)
 unfold m63 m111 m112
 rw [SExpr.eta3]
 rw [show (256:Int)=((256:Nat):Int) from rfl,show (16:Int)=((16:Nat):Int) from rfl,e1,e2]
 have c:decide ((n:Int)≤((256:Nat):Int))=true:=by simp only [decide_eq_true_eq];omega
 simp only [Option.bind_some,c,cond_true]
theorem m90_refl {d n:Nat} {e:SExpr} (h1:Size d n e) (h2:Nest d e) (hd:d≤16) (hn:n≤256):m90 e e=some true:=by
 unfold m90 m153
 rw [SExpr.eta3,m63_light h1 h2 hd hn,n153_refl d fuel e h2 (by unfold fuel;omega)];rfl
def Lit (e:SExpr):Prop:=∃ d n,Size d n e∧Nest d e∧d≤16∧n≤256
theorem m90_lit {e:SExpr} (h:Lit e):m90 e e=some true:=by
 obtain ⟨d,n,h1,h2,h3,h4⟩:=h
 exact m90_refl h1 h2 h3 h4
theorem m47_refl {x:SSignal} (h1:Lit x.On) (h2:Lit x.Off):m47 x x=some true:=by
 unfold m47
 rw [SExpr.eta3,SExpr.eta3,m90_lit h1,m90_lit h2]
 simp
theorem eta_sig (x:SSignal):(⟨x.Name,x.Kind,⟨x.On.Op,x.On.Index,x.On.Args⟩,⟨x.Off.Op,x.Off.Index,x.Off.Args⟩,x.Delay,x.Init⟩:SSignal)=x:=by
 rw [SExpr.eta3,SExpr.eta3]
theorem m14_refl {c:SControl} (hi:c.Inputs.length < 1000000) (hs:c.Signals.length < 1000000) (hp:c.Plus.length < 1000000) (hm:c.Minus.length < 1000000) (h:∀ x∈c.Signals,Lit x.On∧Lit x.Off):m14 c c=some true:=by
 unfold m14
 rw [m46_refl _ (by unfold fuel;omega) (by omega),m48_refl _ (by unfold fuel;omega) (by omega),m48_refl _ (by unfold fuel;omega) (by omega)]
 have c1:(c.Actuators !=c.Actuators)=false:=by simp
 have c2:((c.Signals.length:Int) !=(c.Signals.length:Int))=false:=by simp
 rw [c1,c2]
 simp only [cond_false,cond_true,Option.bind_some,Bool.not_true]
 rw [iter_all c.Signals.length (by unfold fuel;omega)]
 ·rfl
 ·intro k hk
  have hx:=h c.Signals[k] (List.getElem_mem hk)
  have e1:=m47_refl hx.1 hx.2
  have c1:decide ((k:Int) < (c.Signals.length:Int))=true:=by simp;exact hk
  simp only [c1,cond_true,idx_lt hk,Option.bind_some,eta_sig,e1,Bool.not_true,cond_false,addI_nat (show k < 9223372036854775807 by omega)]
 ·have c1:decide ((c.Signals.length:Int) < (c.Signals.length:Int))=false:=by simp
  simp only [c1,cond_false]
end G33
end
section
namespace G33
open Go Go.Pl
set_option linter.unusedVariables false
set_option linter.unusedSimpArgs false
def nameOf (p:List UInt8) (k:Nat):List UInt8:=(m109 p k).getD []
def noE:SExpr:=⟨0,0,[]⟩
def clkOf (s:SSequence) (M:List Int) (k:Nat):List SSignal:=match s.Steps[k]?,M[k]? with
 | some x,some m=>if x.Wait=0 then [] else [⟨nameOf [119] k,2,⟨3,0,lineE m::x.Strokes.map swE⟩,noE,x.Wait,false⟩]
 | _,_=>[]
def clks (s:SSequence) (M:List Int) (k:Nat):List SSignal:=(List.range k).flatMap (clkOf s M)
theorem clks_succ {s:SSequence} {M:List Int} {k:Nat}:clks s M (k+1)=clks s M k++clkOf s M k:=by
 unfold clks;rw [List.range_succ,List.flatMap_append];simp
theorem clkOf_len (s:SSequence) (M:List Int) (k:Nat):(clkOf s M k).length≤1:=by
 unfold clkOf;split
 ·split<;>simp
 ·simp
theorem clks_len (s:SSequence) (M:List Int):∀ k,(clks s M k).length≤k
 | 0=>by simp [clks]
 | k+1=>by
  rw [clks_succ,List.length_append]
  have:=clks_len s M k
  have:=clkOf_len s M k
  omega
theorem sev3 (x y:SExpr) (l:List SExpr):m148 3 (x::y::l)=some ⟨3,0,x::y::l⟩:=by
 unfold m148
 rw [cond_f (by simp;omega)]
theorem m86_eq (s:SSequence) (n:Int) (M:List Int) (hn:0≤n) (hs:s.Steps.length≤64) (hM:M.length=s.Steps.length) (h:∀ k (h:k < s.Steps.length),StepOk s.Steps[k]):
 m86 ⟨s,tms s n s.Steps.length⟩ M=some (clks s M s.Steps.length):=by
 unfold m86
 have hlen:(tms s n s.Steps.length).length=s.Steps.length:=by simp [tms]
 rw [iter_fold (fun k:Nat=>((k:Int),clks s M k)) s.Steps.length ?hn (clks s M s.Steps.length) ?h0 ?h ?he]
 case hn=>unfold fuel;omega
 case h0=>simp [clks]
 case he=>
  try dsimp only
  rw [cond_f (lt_f (by rw [hlen];omega))]
 case h=>
  intro k hk
  try dsimp only
  have hc:=clks_len s M k
  have ho:=h k hk
  have hle:=ho.le
  rw [cond_t (lt_t (by rw [hlen];omega)),tms_idx hk]
  simp only [Option.bind_some,m147_line]
  rw [tmAt_nonneg hk hn,clks_succ,addI_nat (by omega)]
  have e:clkOf s M k=if s.Steps[k].Wait=0 then [] else [⟨nameOf [119] k,2,⟨3,0,lineE (M[k]'(by omega))::s.Steps[k].Strokes.map swE⟩,noE,s.Steps[k].Wait,false⟩]:=by
   unfold clkOf;rw [List.getElem?_eq_getElem hk,List.getElem?_eq_getElem (show k < M.length by omega)]
  rw [e]
  by_cases hw:s.Steps[k].Wait=0
  ·rw [cond_f (by simp [hw]),if_pos hw]
   simp
  ·rw [cond_t (by simpa using hw),if_neg hw,idx_lt (show k < M.length by omega),idx_lt hk]
   simp only [Option.bind_some]
   rw [m151_eq _ ho]
   simp only [Option.bind_some,SExpr.eta3]
   obtain ⟨t,ht,_⟩:=num_eq (p:=[119]) (.inr (.inr rfl)) (show k < 100 by omega)
   rw [appc_eq (by simp;omega) (by simp;omega),ht]
   have hnm:nameOf [119] k=t:=by unfold nameOf;rw [ht];rfl
   obtain ⟨y,l,hyl⟩:∃ y l,s.Steps[k].Strokes.map swE=y::l:=by
    cases hq:s.Steps[k].Strokes with
    | nil=>have:=ho.pos;rw [hq] at this;simp at this
    | cons a l=>exact ⟨_,_,rfl⟩
   simp only [Option.bind_some,List.singleton_append]
   rw [hyl,sev3,hnm]
   simp only [Option.bind_some,SExpr.eta3]
   rw [appc_eq (by simp;omega) (by simp;omega)]
   rfl
 rfl
end G33
end
section
namespace G33
open Go Go.Pl
set_option linter.unusedVariables false
set_option linter.unusedSimpArgs false
structure Good (s:SSequence):Prop where
 a1:1≤s.Actuators
 a6:s.Actuators≤6
 n0:0 < s.Steps.length
 n64:s.Steps.length≤64
 step:∀ i (h:i < s.Steps.length),StepOk s.Steps[i]
def sev (a:Int):List SExpr→SExpr
 | [x]=>x
 | l=>⟨a,0,l⟩
theorem m148_sev (a:Int) (l:List SExpr):m148 a l=some (sev a l):=by
 unfold m148
 match l with
 | []=>rfl
 | [x]=>show some (⟨x.Op,x.Index,x.Args⟩:SExpr)=_;rw [SExpr.eta3];rfl
 | x::y::l=>rw [cond_f (by simp;omega)];rfl
theorem endE_len {s:SSequence} (h:Good s) {n:Int} {k:Nat} (hk:k < s.Steps.length):(endE s n k).length≤6:=by
 unfold endE
 rw [List.getElem?_eq_getElem hk]
 dsimp only
 split
 ·simpa using (h.step k hk).le
 ·simp
theorem act2 {s:SSequence} (h:Good s):mulI .i64 2 s.Actuators=2*s.Actuators:=by
 have:=h.a1;have:=h.a6
 exact mulI_eq (by omega) (by omega)
theorem prev_eq {k n:Nat} (hk:k < n) (hn:n≤64):remc (subI .i64 (addI .i64 (k:Int) (n:Int)) 1) (n:Int)=some (((k+n - 1) % n:Nat):Int):=by
 rw [addI_eq (by omega) (by omega),subI_eq (by omega) (by omega),show (k:Int)+(n:Int) - 1=((k+n - 1:Nat):Int) by omega]
 unfold remc
 rw [if_neg (by omega),Int.ofNat_tmod]
theorem next_eq {k n:Nat} (hk:k < n) (hn:n≤64):remc (addI .i64 (k:Int) 1) (n:Int)=some (((k+1) % n:Nat):Int):=by
 rw [addI_nat (by omega)]
 unfold remc
 rw [if_neg (by omega),Int.ofNat_tmod]
end G33
end
section
namespace G33
open Go Go.Pl
set_option linter.unusedVariables false
set_option linter.unusedSimpArgs false
def hit (a:Int) (o:Bool) (y:SStroke):Bool:=y.Actuator==a&&y.Out==o
theorem any_first (l:List SStroke) (p:SStroke→Bool):(match first l.length (fun k=>match l[k]? with | some b=>bif p b then some (k:Int) else none | none=>none) with | none=>decide ((-1:Int)≥0) | some r=>decide (r≥0))=l.any p:=by
 cases hf:first l.length (fun k=>match l[k]? with | some b=>bif p b then some (k:Int) else none | none=>none) with
 | none=>
  rw [first_none_iff] at hf
  have:(l.any p)=false:=by
   rw [List.any_eq_false]
   intro b hb
   obtain ⟨k,hk,rfl⟩:=List.getElem_of_mem hb
   have:=hf k hk
   rw [List.getElem?_eq_getElem hk] at this
   dsimp only at this
   intro hc
   rw [hc] at this
   simp at this
  rw [this];rfl
 | some r=>
  unfold first at hf
  obtain ⟨k,hk,hr⟩:=List.exists_of_findSome?_eq_some hf
  have hk':k < l.length:=by simpa using hk
  rw [List.getElem?_eq_getElem hk'] at hr
  dsimp only at hr
  cases hb:p l[k] with
  | false=>rw [hb] at hr;simp at hr
  | true=>
   rw [hb] at hr
   simp only [cond_true,Option.some.injEq] at hr
   have:l.any p=true:=by
    rw [List.any_eq_true]
    exact ⟨l[k],List.getElem_mem hk',hb⟩
   rw [this]
   subst hr
   simp
def pil (s:SSequence) (M:List Int) (a:Int) (o:Bool):Nat→List SExpr
 | 0=>[]
 | k+1=>pil s M a o k++(match s.Steps[k]?,M[k]? with | some x,some m=>if x.Strokes.any (hit a o) then [lineE m] else [] | _,_=>[])
theorem pil_succ {s:SSequence} {M:List Int} {a:Int} {o:Bool} {k:Nat} (hk:k < s.Steps.length) (hm:k < M.length):pil s M a o (k+1)=pil s M a o k++if s.Steps[k].Strokes.any (hit a o) then [lineE M[k]] else []:=by
 rw [pil,List.getElem?_eq_getElem hk,List.getElem?_eq_getElem hm]
theorem pil_len (s:SSequence) (M:List Int) (a:Int) (o:Bool):∀ k,(pil s M a o k).length≤k
 | 0=>Nat.le_refl _
 | k+1=>by
  have:=pil_len s M a o k
  rw [pil,List.length_append]
  split
  ·split<;>simp<;>omega
  ·simp;omega
def pname (a:Nat) (o:Bool):List UInt8:=[UInt8.ofNat (97+a),if o then 112 else 109]
def pilSig (s:SSequence) (M:List Int) (a:Nat) (o:Bool):SSignal:=⟨pname a o,0,sev 4 (pil s M a o s.Steps.length),noE,0,false⟩
def pils (s:SSequence) (M:List Int) (k:Nat):List SSignal:=(List.range k).flatMap fun a=>[pilSig s M a true,pilSig s M a false]
theorem pils_succ {s:SSequence} {M:List Int} {k:Nat}:pils s M (k+1)=pils s M k++[pilSig s M k true,pilSig s M k false]:=by
 unfold pils;rw [List.range_succ,List.flatMap_append];simp
theorem pils_len (s:SSequence) (M:List Int):∀ k,(pils s M k).length=2*k
 | 0=>by simp [pils]
 | k+1=>by rw [pils_succ,List.length_append,pils_len s M k];simp;omega
theorem StepOk.lt {x:SStep} (h:StepOk x):∀ (d j:Nat) (hj:j+1+d < x.Strokes.length),x.Strokes[j].Actuator < x.Strokes[j+1+d].Actuator
 | 0,j,hj=>h.inc j hj
 | d+1,j,hj=>Int.lt_trans (h.lt d j (by omega)) (h.inc (j+1+d) hj)
theorem hit_once {x:SStep} (h:StepOk x) {a:Int} {o:Bool} {i:Nat} (hi:i < x.Strokes.length) (hh:hit a o x.Strokes[i]=true):(x.Strokes.take i).any (hit a o)=false:=by
 rw [List.any_eq_false]
 intro y hy hc
 obtain ⟨j,hj,rfl⟩:=List.getElem_of_mem hy
 have hj':j < i:=by rw [List.length_take] at hj;omega
 rw [List.getElem_take] at hc
 have:=h.lt (i - j - 1) j (by omega)
 simp only [show j+1+(i - j - 1)=i by omega] at this
 unfold hit at hh hc
 simp only [Bool.and_eq_true,beq_iff_eq] at hh hc
 omega
theorem letters {a:Nat} (h:a < 6):slcc ([97,98,99,100,101,102]:List UInt8) (some (a:Int)) (some ((a+1:Nat):Int))=some [UInt8.ofNat (97+a)]:=by
 have:a=0∨a=1∨a=2∨a=3∨a=4∨a=5:=by omega
 rcases this with rfl | rfl | rfl | rfl | rfl | rfl<;>rfl
theorem catc_one (a:Nat) (n:UInt8):catc [UInt8.ofNat (97+a)] [n]=some [UInt8.ofNat (97+a),n]:=by
 unfold catc;rw [if_pos (by simp)];rfl
theorem m88_eq (s:SSequence) (M T:List Int) (h0:1≤s.Actuators) (h1:s.Actuators≤6) (hs:s.Steps.length≤64) (hM:M.length=s.Steps.length) (h:∀ k (h:k < s.Steps.length),StepOk s.Steps[k]):
 m88 ⟨s,T⟩ M=some (pils s M s.Actuators.toNat):=by
 unfold m88
 rw [iter_fold (fun k:Nat=>((k:Int),pils s M k)) s.Actuators.toNat ?hn (pils s M s.Actuators.toNat) ?h0 ?h ?he]
 case hn=>unfold fuel;omega
 case h0=>simp [pils]
 case he=>
  try dsimp only
  rw [cond_f (lt_f (by omega))]
 case h=>
  intro a ha
  try dsimp only
  have hpl:=pils_len s M a
  rw [cond_t (lt_t (by omega)),pils_succ,addI_nat (by omega)]
  rw [iter_fold (fun k:Nat=>((k:Int),pils s M a++(([true,false]:List Bool).take k).map (pilSig s M a))) 2 ?hn (pils s M a++[pilSig s M a true,pilSig s M a false]) ?h0 ?h ?he]
  case hn=>unfold fuel;omega
  case h0=>simp
  case he=>rfl
  case h=>
   intro k hk
   try dsimp only
   have hk':k < ([true,false]:List Bool).length:=hk
   rw [cond_t (lt_t (by simp;omega)),idx_lt hk']
   simp only [Option.bind_some]
   have et:(([true,false]:List Bool).take (k+1)).map (pilSig s M a)=(([true,false]:List Bool).take k).map (pilSig s M a)++[pilSig s M a (([true,false]:List Bool)[k])]:=by
    rw [List.take_add_one,List.getElem?_eq_getElem hk',List.map_append];rfl
   rw [et,←List.append_assoc]
   have hle:(pils s M a++(([true,false]:List Bool).take k).map (pilSig s M a)).length≤12+2:=by
    rw [List.length_append,hpl,List.length_map,List.length_take];simp;omega
   generalize pils s M a++(([true,false]:List Bool).take k).map (pilSig s M a)=acc at hle ⊢
   generalize ([true,false]:List Bool)[k]=o
   rw [iter_fold (fun j:Nat=>((j:Int),acc,pil s M a o j)) s.Steps.length ?hn (acc,pil s M a o s.Steps.length) ?h0 ?h ?he]
   case hn=>unfold fuel;omega
   case h0=>rfl
   case he=>
    try dsimp only
    rw [cond_f (lt_f (by omega))]
   case h=>
    intro j hj
    try dsimp only
    have hl:=pil_len s M a o j
    have hx:=h j hj
    have hxl:=hx.le
    rw [cond_t (lt_t (by omega)),pil_succ hj (by omega),addI_nat (by omega)]
    rw [iter_fold (fun i:Nat=>((i:Int),acc,pil s M a o j++if (s.Steps[j].Strokes.take i).any (hit a o) then [lineE (M[j]'(by omega))] else [])) s.Steps[j].Strokes.length ?hn (acc,pil s M a o j++if s.Steps[j].Strokes.any (hit a o) then [lineE (M[j]'(by omega))] else []) ?h0 ?h ?he]
    case hn=>unfold fuel;omega
    case h0=>simp
    case he=>
     try dsimp only
     rw [idx_lt hj]
     simp only [Option.bind_some]
     rw [cond_f (lt_f (by omega)),List.take_length]
    case h=>
     intro i hi
     try dsimp only
     rw [idx_lt hj]
     simp only [Option.bind_some]
     rw [cond_t (lt_t (by omega)),idx_lt hi]
     simp only [Option.bind_some,m147_line,SExpr.eta3]
     have eh:((s.Steps[j].Strokes[i].Actuator==(a:Int)&&(s.Steps[j].Strokes[i].Out==o&&true)) !=false)=hit a o s.Steps[j].Strokes[i]:=by
      unfold hit;simp
     have ea:(s.Steps[j].Strokes.take (i+1)).any (hit a o)=((s.Steps[j].Strokes.take i).any (hit a o)||hit a o s.Steps[j].Strokes[i]):=by
      rw [List.take_add_one,List.getElem?_eq_getElem hi,List.any_append];simp
     rw [eh,ea,addI_nat (by omega)]
     cases hb:hit a o s.Steps[j].Strokes[i] with
     | true=>
      rw [hit_once hx hi hb]
      simp only [cond_true]
      rw [idx_lt (show j < M.length by omega)]
      simp only [Option.bind_some]
      rw [if_neg (by simp),List.append_nil,appc_eq (by simp;omega) (by simp;omega)]
      simp
     | false=>simp
    rfl
   simp only [Option.bind_some]
   rw [letters (show a < 6 by omega)]
   simp only [Option.bind_some,m148_sev,catc_one]
   cases o with
   | true=>
    simp only [cond_true,Option.bind_some,SExpr.eta3]
    rw [appc_eq (by simp;omega) (by simp;omega),addI_nat (by omega)]
    rfl
   | false=>
    simp only [cond_false,Option.bind_some,SExpr.eta3]
    rw [appc_eq (by simp;omega) (by simp;omega),addI_nat (by omega)]
    rfl
  rfl
 rfl
end G33
end
