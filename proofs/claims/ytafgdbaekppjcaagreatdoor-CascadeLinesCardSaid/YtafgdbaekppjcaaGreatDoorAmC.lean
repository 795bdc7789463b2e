/- Parts of my machine and its laws, joined: AmC AmD AmE AmEh. No condition. -/
import Derived.Test.YtafgdbaekppjcaaGreatDoorAmB
set_option linter.unusedSectionVars false
set_option linter.unusedVariables false
set_option linter.unusedSimpArgs false
section
namespace Go.Am
open Region
def Ranked (m:Region.Mode) (ops:Array Oper) (rank:Nat→Nat):Prop:=
 ∀ i o,ops[i]?=some o→∀ e∈o.after.toList,binds m e=true→e.on < ops.size∧rank e.on < rank i
structure LinI (m:Region.Mode) (ops:Array Oper) (listed:Array Bool) (acc:List Nat):Prop where
 size:listed.size=ops.size
 nodup:acc.Nodup
 small:∀ i∈acc,i < ops.size
 mark:∀ i,i < ops.size→listed.getD i true=decide (i∈acc)
 order:∀ l1 i l2,acc=l2++i::l1→∀ o,ops[i]?=some o→∀ e∈o.after.toList,binds m e=true→e.on∈l1
theorem ready_exists {m:Region.Mode} {ops:Array Oper} {rank:Nat→Nat} (hr:Ranked m ops rank) (acc:List Nat):
 ∀ k i,rank i=k→i < ops.size→i ∉ acc→
  ∃ j o,j < ops.size∧j ∉ acc∧ops[j]?=some o∧∀ e∈o.after.toList,binds m e=true→e.on∈acc:=by
 intro k
 induction k using Nat.strongRecOn with
 | _ k ih=>
  intro i hk hi hn
  obtain ⟨o,ho⟩:∃ o,ops[i]?=some o:=⟨_,Array.getElem?_eq_getElem hi⟩
  by_cases h:∀ e∈o.after.toList,binds m e=true→e.on∈acc
  ·exact ⟨i,o,hi,hn,ho,h⟩
  ·simp only [Classical.not_forall] at h
   obtain ⟨e,he,hb,hna⟩:=h
   obtain ⟨h1,h2⟩:=hr i o ho e he hb
   exact ih (rank e.on) (hk▸h2) e.on rfl h1 hna
theorem go_ok {m:Region.Mode} {ops:Array Oper} {rank:Nat→Nat} (hr:Ranked m ops rank):
 ∀ fuel t listed acc,LinI m ops listed acc→fuel+acc.length=ops.size→
  ∃ listed' acc',linearise.go m ops fuel t listed acc=acc'.reverse∧LinI m ops listed' acc'∧acc'.length=ops.size:=by
 intro fuel
 induction fuel with
 | zero=>intro t listed acc hI hf;exact ⟨listed,acc,rfl,hI,by omega⟩
 | succ fuel ih=>
  intro t listed acc hI hf
  simp only [linearise.go]
  generalize hrs:(List.range ops.size).filter (fun i=> !listed.getD i true&&((ops[i]?).map (·.after.all fun e=> !binds m e||listed.getD e.on false)).getD false)=rs
  have hmem:∀ i,i∈rs↔(i < ops.size∧i ∉ acc∧∃ o,ops[i]?=some o∧∀ e∈o.after.toList,binds m e=true→e.on∈acc):=by
   intro i
   rw [←hrs,List.mem_filter,List.mem_range]
   constructor
   ·rintro ⟨hi,hp⟩
    obtain ⟨o,ho⟩:∃ o,ops[i]?=some o:=⟨_,Array.getElem?_eq_getElem hi⟩
    simp only [ho,Option.map_some,Option.getD_some,Bool.and_eq_true,Bool.not_eq_true',hI.mark i hi,decide_eq_false_iff_not] at hp
    refine ⟨hi,hp.1,o,ho,fun e he hb=>?_⟩
    have h2:=hp.2
    rw [←Array.all_toList,List.all_eq_true] at h2
    have h3:=h2 e he
    simp only [hb,Bool.not_true,Bool.false_or] at h3
    have hon:=(hr i o ho e he hb).1
    have h4:=hI.mark e.on hon
    have h5:listed.getD e.on true=listed.getD e.on false:=by
     have:e.on < listed.size:=by rw [hI.size];exact hon
     simp [Array.getD,this]
    rw [h5,h3] at h4
    simpa using h4.symm
   ·rintro ⟨hi,hn,o,ho,hall⟩
    refine ⟨hi,?_⟩
    simp only [ho,Option.map_some,Option.getD_some,Bool.and_eq_true,Bool.not_eq_true',hI.mark i hi,decide_eq_false_iff_not]
    refine ⟨hn,?_⟩
    rw [←Array.all_toList,List.all_eq_true]
    intro e he
    by_cases hb:binds m e=true
    ·have hon:=(hr i o ho e he hb).1
     have h4:=hI.mark e.on hon
     have h5:listed.getD e.on true=listed.getD e.on false:=by
      have:e.on < listed.size:=by rw [hI.size];exact hon
      simp [Array.getD,this]
     rw [h5] at h4
     simp [hb,h4,hall e he hb]
    ·simp [hb]
  have hne:rs≠[]:=by
   intro h0
   have:∃ i,i < ops.size∧i ∉ acc:=by
    refine Classical.byContradiction fun hcon=>?_
    have hall:∀ i,i < ops.size→i∈acc:=fun i hi=>Classical.byContradiction fun hn=>hcon ⟨i,hi,hn⟩
    have hsub:(List.range ops.size) ⊆ acc:=fun i hi=>hall i (List.mem_range.1 hi)
    have:=List.Nodup.length_le_of_subset (List.nodup_range (n:=ops.size)) hsub
    simp at this;omega
   obtain ⟨i,hi,hn⟩:=this
   obtain ⟨j,o,hj,hjn,ho,hall⟩:=ready_exists hr acc _ i rfl hi hn
   have:=(hmem j).2 ⟨hj,hjn,o,ho,hall⟩
   rw [h0] at this;simp at this
  have hlen:0 < rs.length:=List.length_pos_iff.2 hne
  have hlt:t % rs.length < rs.length:=Nat.mod_lt _ hlen
  rw [List.getElem?_eq_getElem hlt]
  generalize hi:rs[t % rs.length]=i
  have hir:i∈rs:=hi▸List.getElem_mem hlt
  obtain ⟨h1,h2,o,ho,hall⟩:=(hmem i).1 hir
  refine ih _ _ _ ⟨?_,?_,?_,?_,?_⟩ (by simp;omega)
  ·simp [hI.size]
  ·exact List.nodup_cons.2 ⟨h2,hI.nodup⟩
  ·intro j hj
   rcases List.mem_cons.1 hj with rfl | hj
   ·exact h1
   ·exact hI.small j hj
  ·intro j hj
   by_cases hji:j=i
   ·subst hji
    simp [Array.getD,hI.size,hj]
   ·have:=hI.mark j hj
    have hij:¬ i=j:=fun h=>hji h.symm
    rw [Array.getD_eq_getD_getElem?] at this ⊢
    rw [Array.getElem?_setIfInBounds,if_neg hij,this]
    simp [hji]
  ·intro l1 j l2 hacc o' ho' e he hb
   cases l2 with
   | nil=>
    simp only [List.nil_append,List.cons.injEq] at hacc
    obtain ⟨rfl,rfl⟩:=hacc
    rw [ho] at ho';injection ho' with ho';subst ho'
    exact hall e he hb
   | cons x l2=>
    simp only [List.cons_append,List.cons.injEq] at hacc
    exact hI.order l1 j l2 hacc.2 o' ho' e he hb
theorem lin_ok {m:Region.Mode} {ops:Array Oper} {rank:Nat→Nat} (hr:Ranked m ops rank) (t:Nat):
 (linearise m ops t).Nodup∧(∀ i,i∈linearise m ops t↔i < ops.size)∧
  ∀ l1 i l2,linearise m ops t=l1++i::l2→∀ o,ops[i]?=some o→∀ e∈o.after.toList,binds m e=true→e.on∈l1:=by
 obtain ⟨listed',acc',h1,hI,hlen⟩:=go_ok hr ops.size t (Array.replicate ops.size false) []
  ⟨by simp,List.nodup_nil,by simp,by intro i hi;simp [Array.getD,hi],by intro l1 i l2 h;simp at h⟩ (by simp)
 unfold linearise
 rw [h1]
 refine ⟨List.nodup_iff_pairwise_ne.2 (List.pairwise_reverse.2 ((List.nodup_iff_pairwise_ne.1 hI.nodup).imp fun h=>h.symm)),fun i=>?_,fun l1 i l2 h o ho e he hb=>?_⟩
 ·rw [List.mem_reverse]
  refine ⟨hI.small i,fun hi=>?_⟩
  refine Classical.byContradiction fun hn=>?_
  have h2:(i::acc').Nodup:=List.nodup_cons.2 ⟨hn,hI.nodup⟩
  have hsub:(i::acc') ⊆ List.range ops.size:=by
   intro j hj
   rcases List.mem_cons.1 hj with rfl | hj
   ·exact List.mem_range.2 hi
   ·exact List.mem_range.2 (hI.small j hj)
  have:=List.Nodup.length_le_of_subset h2 hsub
  simp at this;omega
 ·have:acc'=l2.reverse++i::l1.reverse:=by
   have:=congrArg List.reverse h
   simpa using this
  have:=hI.order _ _ _ this o ho e he hb
  simpa using this
end Go.Am
end
section
namespace Go.Am
section
variable (G:Nat→List AV) (cI:CI)
abbrev noH:CH:=fun _ _ _=>none
abbrev noHp:Nat→Bool:=fun _=>false
def act (o:ROp) (t:List AV) (H:List Obj):Option (AV×List Obj):=
 match want t o.guard with
 | some true=>evalOp G noHp cI noH H.length o.op t H
 | some false=>some (.tup [],H)
 | none=>none
theorem runOps_cons (o:ROp) (os:List ROp) (t:List AV) (H:List Obj):
 runOps G noHp cI noH (o::os) t H=match act G cI o t H with
  | some (v,H')=>runOps G noHp cI noH os (setD t o.dst v) H'
  | none=>none:=by
 rw [runOps,act]
 cases want t o.guard with
 | none=>rfl
 | some b=>cases b<;>rfl
theorem map_congr' {l:List RX} {f g:RX→AV} (h:∀ r∈l,f r=g r):l.map f=l.map g:=List.map_congr_left h
theorem opt_congr {l:Option RX} {f g:RX→AV} (h:∀ r∈l.toList,f r=g r):l.map f=l.map g:=by
 cases l with
 | none=>rfl
 | some x=>simp [h x (by simp)]
theorem evalP_congr {t t':List AV} {x:RO} (h:∀ r∈x.ops,r.ev G t=r.ev G t'):evalP G t x=evalP G t' x:=by
 cases x<;>simp only [RO.ops] at h<;>(try rfl)
 case build z parts=>
  simp only [evalP]
  have:parts.map (fun (x:Nat×Nat×RX)=>(x.1,x.2.1,x.2.2.ev G t))=parts.map (fun x=>(x.1,x.2.1,x.2.2.ev G t')):=
   List.map_congr_left fun x hx=>by rw [h x.2.2 (List.mem_map.2 ⟨x,hx,rfl⟩)]
  rw [this]
 case mkf f cap=>simp only [evalP];rw [map_congr' h]
 case mkb f cap=>simp only [evalP];rw [map_congr' h]
 case mn l=>simp only [evalP];rw [map_congr' h]
 case mx l=>simp only [evalP];rw [map_congr' h]
 case slcS x lo hi=>
  simp only [evalP]
  rw [h x (by simp),opt_congr (l:=lo) (fun r hr=>h r (by simp at hr ⊢;simp [hr])),opt_congr (l:=hi) (fun r hr=>h r (by simp at hr ⊢;simp [hr]))]
 all_goals (simp only [List.mem_cons,List.not_mem_nil,or_false,forall_eq_or_imp,forall_eq] at h;simp only [evalP,h])
theorem evalR_congr {t t':List AV} {H:List Obj} {x:RO} (h:∀ r∈x.ops,r.ev G t=r.ev G t'):evalR G t H x=evalR G t' H x:=by
 cases x<;>simp only [RO.ops] at h<;>(try rfl)
 case slc sz x lo hi=>
  simp only [evalR]
  rw [h x (by simp),opt_congr (l:=lo) (fun r hr=>h r (by simp at hr ⊢;simp [hr])),opt_congr (l:=hi) (fun r hr=>h r (by simp at hr ⊢;simp [hr]))]
 case slcA len sz x lo hi=>
  simp only [evalR]
  rw [h x (by simp),opt_congr (l:=lo) (fun r hr=>h r (by simp at hr ⊢;simp [hr])),opt_congr (l:=hi) (fun r hr=>h r (by simp at hr ⊢;simp [hr]))]
 all_goals (simp only [List.mem_cons,List.not_mem_nil,or_false,forall_eq_or_imp,forall_eq] at h;simp only [evalR,h])
theorem evalW_congr {t t':List AV} {H:List Obj} {pl:Nat} {x:RO} (h:∀ r∈x.ops,r.ev G t=r.ev G t'):evalW G t H pl x=evalW G t' H pl x:=by
 cases x<;>simp only [RO.ops] at h<;>(try rfl)
 case bsl sz z len parts=>
  simp only [evalW]
  have:parts.map (fun (x:Nat×RX)=>(x.1,x.2.ev G t))=parts.map (fun x=>(x.1,x.2.ev G t')):=
   List.map_congr_left fun x hx=>by rw [h x.2 (List.mem_map.2 ⟨x,hx,rfl⟩)]
  rw [this]
 case bslr z len parts=>
  simp only [evalW]
  have:parts.map (fun (x:Nat×RX)=>(x.1,x.2.ev G t))=parts.map (fun x=>(x.1,x.2.ev G t')):=
   List.map_congr_left fun x hx=>by rw [h x.2 (List.mem_map.2 ⟨x,hx,rfl⟩)]
  rw [this]
 all_goals (simp only [List.mem_cons,List.not_mem_nil,or_false,forall_eq_or_imp,forall_eq] at h;simp only [evalW,h])
theorem evalOp_congr {t t':List AV} {H:List Obj} {x:RO} (hp:Nat→Bool) (cH:CH) (pl:Nat) (h:∀ r∈x.ops,r.ev G t=r.ev G t'):
 evalOp G hp cI cH pl x t H=evalOp G hp cI cH pl x t' H:=by
 unfold evalOp
 rw [evalP_congr G h,evalR_congr G h,evalW_congr G h]
 cases x.kind with
 | call=>
  dsimp only
  cases x with
  | call f args=>dsimp only;rw [map_congr' (l:=args) h]
  | callv f args=>
   simp only [RO.ops,List.mem_cons,forall_eq_or_imp] at h
   dsimp only;rw [h.1,map_congr' (l:=args) h.2]
  | _=>rfl
 | _=>rfl
theorem getD_set_ne {t:List AV} {d s:Nat} {v:AV} (h:d≠s):(t.set d v).getD s .any=t.getD s .any:=by
 simp [List.getD,List.getElem?_set_ne h]
theorem ev_setD {t:List AV} {d:Option Nat} {v:AV} {r:RX} (h:∀ s,slotOf r=some s→d≠some s):
 r.ev G (setD t d v)=r.ev G t:=by
 cases r with
 | t n=>
  cases d with
  | none=>rfl
  | some d=>
   have:d≠n:=fun e=>h n rfl (by rw [e])
   simp [RX.ev,setD,List.getD,List.getElem?_set_ne this]
 | _=>rfl
theorem act_congr {o:ROp} {t:List AV} {H:List Obj} {d:Option Nat} {v:AV} (h:notIn d (readsOf o)=true):
 act G cI o (setD t d v) H=act G cI o t H:=by
 have hr:∀ s∈readsOf o,d≠some s:=by
  intro s hs hd
  subst hd
  simp only [notIn,Bool.not_eq_true',List.contains_eq_mem] at h
  simp [hs] at h
 unfold act
 have hw:want (setD t d v) o.guard=want t o.guard:=by
  cases hg:o.guard with
  | none=>rfl
  | some g=>
   obtain ⟨s,b⟩:=g
   have:=hr s (by simp [readsOf,hg])
   cases d with
   | none=>rfl
   | some d=>
    have hne:d≠s:=fun e=>this (by rw [e])
    simp only [want,setD]
    rw [getD_set_ne hne]
 rw [hw]
 cases want t o.guard with
 | none=>rfl
 | some b=>
  cases b with
  | false=>rfl
  | true=>
   exact evalOp_congr G cI noHp noH H.length fun r hm=>ev_setD G fun s hs=>hr s (by simp [readsOf];exact .inr ⟨r,hm,hs⟩)
theorem evalOp_nw {x:RO} {t:List AV} {H H':List Obj} {pl:Nat} {v:AV} (hk:x.kind≠ .write) (h:evalOp G noHp cI noH pl x t H=some (v,H')):H'=H:=by
 unfold evalOp at h
 cases hx:x.kind with
 | write=>exact (hk hx).elim
 | pure=>rw [hx] at h;dsimp only at h;split at h<;>simp at h;exact h.2.symm
 | read=>rw [hx] at h;dsimp only at h;split at h<;>simp at h;exact h.2.symm
 | call=>
  rw [hx] at h;dsimp only at h
  have key:∀ f args,doCall noHp cI noH f args H=some (v,H')→H'=H:=by
   intro f args h
   unfold doCall at h
   simp only [noHp,Bool.false_eq_true,if_false] at h
   split at h
   ·split at h
    ·split at h
     ·simp at h;exact h.2.symm
     ·simp at h
    ·simp at h
   ·simp [noH] at h
  split at h
  ·exact key _ _ h
  ·split at h
   ·exact key _ _ h
   ·exact key _ _ h
   ·simp [noH] at h
   ·simp at h
  ·simp at h
theorem act_nw {o:ROp} {t:List AV} {H H':List Obj} {v:AV} (hk:o.op.kind≠ .write) (h:act G cI o t H=some (v,H')):H'=H:=by
 unfold act at h
 split at h
 ·exact evalOp_nw G cI hk h
 ·simp at h;exact h.2.symm
 ·simp at h
theorem act_pure {o:ROp} {t:List AV} {H H':List Obj} {v:AV} (hk:o.op.kind= .pure) (K:List Obj) (h:act G cI o t H=some (v,H')):
 act G cI o t K=some (v,K):=by
 unfold act at h ⊢
 split at h
 ·simp only [evalOp,hk] at h ⊢
  split at h
  ·rename_i u hu;simp at h;simp [h.1]
  ·simp at h
 ·simp at h;simp [h.1]
 ·simp at h
theorem setD_comm {t:List AV} {d e:Option Nat} {u v:AV} (h:unlike d e=true):setD (setD t d u) e v=setD (setD t e v) d u:=by
 cases d with
 | none=>rfl
 | some d=>
  cases e with
  | none=>rfl
  | some e=>
   have:d≠e:=by simpa [unlike] using h
   simp only [setD]
   exact List.set_comm _ _ this
theorem swap {a b:ROp} {os:List ROp} {t:List AV} {H:List Obj} {r} (hf:free a b=true)
 (h:runOps G noHp cI noH (a::b::os) t H=some r):runOps G noHp cI noH (b::a::os) t H=some r:=by
 simp only [free,Bool.and_eq_true] at hf
 obtain ⟨⟨⟨h1,h2⟩,h3⟩,h4⟩:=hf
 rw [runOps_cons] at h
 split at h
 case h_2=>simp at h
 rename_i v H1 ha
 rw [runOps_cons,act_congr G cI h1] at h
 split at h
 case h_2=>simp at h
 rename_i u H2 hb
 have key:∃ Hb,act G cI b t H=some (u,Hb)∧act G cI a t Hb=some (v,H2):=by
  by_cases ka:a.op.kind= .pure
  ·have:=act_nw G cI (by rw [ka];simp) ha
   subst this
   exact ⟨H2,hb,act_pure G cI ka H2 ha⟩
  ·by_cases kb:b.op.kind= .pure
   ·have:=act_nw G cI (by rw [kb];simp) hb
    subst this
    exact ⟨H,act_pure G cI kb H hb,ha⟩
   ·have kaw:a.op.kind≠ .write:=by
     intro e;rw [e] at h4;cases hk:b.op.kind<;>simp [freeKind,hk] at h4;exact kb hk
    have kbw:b.op.kind≠ .write:=by
     intro e;rw [e] at h4;cases hk:a.op.kind<;>simp [freeKind,hk] at h4;exact ka hk
    have e1:=act_nw G cI kaw ha
    subst e1
    have e2:=act_nw G cI kbw hb
    subst e2
    exact ⟨H2,hb,ha⟩
 obtain ⟨Hb,k1,k2⟩:=key
 rw [runOps_cons,k1]
 dsimp only
 rw [runOps_cons,act_congr G cI h2,k2]
 dsimp only
 rw [←setD_comm h3]
 exact h
theorem front {a:ROp} {os:List ROp} {r}:∀ (pre:List ROp) (t:List AV) (H:List Obj),(∀ b∈pre,free b a=true)→
 runOps G noHp cI noH (pre++a::os) t H=some r→runOps G noHp cI noH (a::(pre++os)) t H=some r:=by
 intro pre
 induction pre with
 | nil=>intro t H _ h;exact h
 | cons b pre ih=>
  intro t H hf h
  refine swap G cI (hf b (by simp)) ?_
  rw [List.cons_append,runOps_cons] at h
  rw [runOps_cons]
  cases hb:act G cI b t H with
  | none=>rw [hb] at h;simp at h
  | some x=>
   rw [hb] at h
   exact ih _ _ (fun c hc=>hf c (by simp [hc])) h
theorem reorder (at_:Nat→ROp) {r}:∀ (π L:List Nat) (t:List AV) (H:List Obj),L.Perm π→L.Pairwise (· < ·)→
 π.Pairwise (fun a b=>b < a→free (at_ b) (at_ a)=true)→
 runOps G noHp cI noH (L.map at_) t H=some r→runOps G noHp cI noH (π.map at_) t H=some r:=by
 intro π
 induction π with
 | nil=>intro L t H hp _ _ h;rw [List.Perm.eq_nil hp] at h;exact h
 | cons i π ih=>
  intro L t H hp hs hπ h
  obtain ⟨L1,L2,rfl⟩:=List.append_of_mem (hp.mem_iff.2 (by simp:i∈i::π))
  have hp':(L1++L2).Perm π:=(List.Perm.cons_inv ((List.perm_middle (a:=i)).symm.trans hp))
  rw [List.map_append,List.map_cons] at h
  have hlt:∀ b∈L1,b < i:=by
   intro b hb
   exact (List.pairwise_append.1 hs).2.2 b hb i (by simp)
  have h2:=front G cI (L1.map at_) t H (by
   intro b hb
   obtain ⟨j,hj,rfl⟩:=List.mem_map.1 hb
   exact (List.pairwise_cons.1 hπ).1 j (hp'.mem_iff.1 (by simp [hj])) (hlt j hj)) h
  rw [List.map_cons,runOps_cons]
  rw [runOps_cons] at h2
  cases ha:act G cI (at_ i) t H with
  | none=>rw [ha] at h2;simp at h2
  | some x=>
   rw [ha] at h2
   refine ih (L1++L2) _ _ hp' ?_ (List.pairwise_cons.1 hπ).2 (by rw [List.map_append];exact h2)
   refine hs.sublist ?_
   simp
end
end Go.Am
end
section
namespace Go.Am
open Region
theorem ranked_of {m:Region.Mode} {ops:Array Oper} {rank:Nat→Nat} (h:rankOk m ops rank=true):Ranked m ops rank:=by
 intro i o ho e he hb
 have hi:i < ops.size:=by
  rcases Nat.lt_or_ge i ops.size with h | h
  ·exact h
  ·simp [Array.getElem?_eq_none h] at ho
 have h1:=List.all_eq_true.1 h i (List.mem_range.2 hi)
 simp only [ho] at h1
 have h2:=List.all_eq_true.1 h1 e he
 simpa [hb] using h2
theorem binds_any {m:Region.Mode} {e:Edge} (h:binds .any e=true):binds m e=true:=by
 unfold binds at h ⊢
 cases hg:e.ground<;>simp [hg] at h ⊢
inductive Anc (ops:Array Oper):Nat→Nat→Prop where
 | edge {j:Nat} {o:Oper} {e:Edge} (ho:ops[j]?=some o) (he:e∈o.after.toList) (hb:binds .any e=true):Anc ops e.on j
 | step {i j:Nat} {o:Oper} {e:Edge} (ho:ops[j]?=some o) (he:e∈o.after.toList) (hb:binds .any e=true) (h:Anc ops i e.on):Anc ops i j
theorem inner_bits (acc:Array Nat) (k:Nat):∀ (l:List Edge) (s:Nat),
 (l.foldl (fun s e=>if binds .any e then s||| 2 ^ e.on||| acc.getD e.on 0 else s) s).testBit k=true→
  s.testBit k=true∨∃ e∈l,binds .any e=true∧(e.on=k∨(acc.getD e.on 0).testBit k=true):=by
 intro l
 induction l with
 | nil=>intro s h;exact .inl h
 | cons e l ih=>
  intro s h
  rw [List.foldl_cons] at h
  rcases ih _ h with h | ⟨e',he',h⟩
  ·by_cases hb:binds .any e=true
   ·simp only [hb,if_true,Nat.testBit_or,Bool.or_eq_true,Nat.testBit_two_pow,decide_eq_true_eq] at h
    rcases h with (h | h) | h
    ·exact .inl h
    ·exact .inr ⟨e,by simp,hb,.inl h⟩
    ·exact .inr ⟨e,by simp,hb,.inr h⟩
   ·simp only [hb,if_false,Bool.false_eq_true] at h
    exact .inl h
  ·exact .inr ⟨e',by simp [he'],h⟩
theorem before_sound (ops:Array Oper):(before ops).size=ops.size∧∀ j k,((before ops).getD j 0).testBit k=true→Anc ops k j:=by
 unfold before
 have key:=Array.foldl_induction (as:=ops) (motive:=fun i acc=>acc.size=i∧∀ j k,(acc.getD j 0).testBit k=true→Anc ops k j)
  (init:=(#[]:Array Nat)) (f:=fun acc o=>acc.push (o.after.foldl (fun s e=>if binds .any e then s||| 2 ^ e.on||| acc.getD e.on 0 else s) 0))
  ⟨rfl,by intro j k h;simp at h⟩ (by
   rintro ⟨i,hi⟩ acc ⟨hs,hacc⟩
   refine ⟨by simp [hs],?_⟩
   intro j k h
   rw [Array.getD_eq_getD_getElem?,Array.getElem?_push] at h
   by_cases hj2:j=acc.size
   ·rw [if_pos hj2,Option.getD_some,←Array.foldl_toList] at h
    have ho:ops[j]?=some ops[i]:=by simp [hj2,hs,hi]
    rcases inner_bits acc k _ _ h with h | ⟨e,he,hb,h⟩
    ·simp at h
    ·rcases h with rfl | h
     ·exact .edge ho he hb
     ·exact .step ho he hb (hacc _ _ h)
   ·rw [if_neg hj2,←Array.getD_eq_getD_getElem?] at h
    exact hacc j k h)
 exact key
theorem anc_before {m:Region.Mode} {ops:Array Oper} {l:List Nat}
 (hl:∀ l1 i l2,l=l1++i::l2→∀ o,ops[i]?=some o→∀ e∈o.after.toList,binds m e=true→e.on∈l1) {i j:Nat} (h:Anc ops i j):
 ∀ l1 l2,l=l1++j::l2→i∈l1:=by
 induction h with
 | @edge j o e ho he hb=>intro l1 l2 h;exact hl l1 _ l2 h _ ho _ he (binds_any hb)
 | step ho he hb _ ih=>
  intro l1 l2 h
  have h1:=hl l1 _ l2 h _ ho _ he (binds_any hb)
  obtain ⟨a,b,rfl⟩:=List.append_of_mem h1
  have:=ih a _ (by rw [h,List.append_assoc,List.cons_append])
  simp [this]
theorem pick_range (rops:List ROp):(List.range rops.length).map (fun i=>rops.getD i default)=rops:=by
 apply List.ext_getElem
 ·simp
 ·intro i h1 h2
  simp at h1
  simp [List.getD,h1]
theorem lin_pair {m:Region.Mode} {ops:Array Oper} {rank:Nat→Nat} (hr:Ranked m ops rank) (τ:Nat):
 (linearise m ops τ).Pairwise (fun a b=>((before ops).toList.getD a 0).testBit b=false):=by
 obtain ⟨hnd,hmem,hord⟩:=lin_ok hr τ
 rw [List.pairwise_iff_getElem]
 intro i j hi hj hij
 generalize ha:(linearise m ops τ)[i]=a
 generalize hb:(linearise m ops τ)[j]=b
 cases h1:((before ops).toList.getD a 0).testBit b with
 | false=>rfl
 | true=>
  exfalso
  have hanc:=(before_sound ops).2 a b (by simpa [Array.getD_eq_getD_getElem?,List.getD] using h1)
  have hsplit:linearise m ops τ=(linearise m ops τ).take i++a::(linearise m ops τ).drop (i+1):=by
   rw [←ha,List.getElem_cons_drop,List.take_append_drop]
  have h2:=anc_before hord hanc _ _ hsplit
  obtain ⟨k,hk,hke⟩:=List.getElem_of_mem h2
  rw [List.getElem_take] at hke
  have hk':k < i:=by simp at hk;omega
  have:=(List.pairwise_iff_getElem.1 (List.nodup_iff_pairwise_ne.1 hnd)) k j (by omega) hj (by omega)
  exact this (hke.trans hb.symm)
structure Ord (ops:Array Oper) (n:Nat) (π:List Nat):Prop where
 nodup:π.Nodup
 mem:∀ i,i∈π↔i < n
 pair:π.Pairwise (fun a b=>((before ops).toList.getD a 0).testBit b=false)
theorem lin_ord {m:Region.Mode} {ops:Array Oper} {rank:Nat→Nat} (hr:Ranked m ops rank) (τ:Nat):Ord ops ops.size (linearise m ops τ):=
 ⟨(lin_ok hr τ).1,(lin_ok hr τ).2.1,lin_pair hr τ⟩
theorem Ord.last {ops:Array Oper} {n:Nat} {π:List Nat} (h:Ord ops (n+1) π) (hb:∀ i,i < n→((before ops).toList.getD n 0).testBit i=true):∃ π',π=π'++[n]∧Ord ops n π':=by
 obtain ⟨l1,l2,rfl⟩:=List.append_of_mem ((h.mem n).2 (by omega))
 have hl2:l2=[]:=by
  cases l2 with
  | nil=>rfl
  | cons x l2=>
   exfalso
   have h1:=(List.pairwise_cons.1 (List.pairwise_append.1 h.pair).2.1).1 x (by simp)
   have h2:x < n+1:=(h.mem x).1 (by simp)
   have h3:n≠x:=(List.pairwise_cons.1 (List.pairwise_append.1 (List.nodup_iff_pairwise_ne.1 h.nodup)).2.1).1 x (by simp)
   rw [hb x (by omega)] at h1
   simp at h1
 subst hl2
 refine ⟨l1,rfl,(List.nodup_append.1 h.nodup).1,fun i=>?_,(List.pairwise_append.1 h.pair).1⟩
 have h1:=h.mem i
 have h2:∀ a∈l1,a≠n:=fun a ha=>(List.pairwise_append.1 (List.nodup_iff_pairwise_ne.1 h.nodup)).2.2 a ha n (by simp)
 constructor
 ·intro hi
  have:=h1.1 (by simp [hi])
  have:=h2 i hi
  omega
 ·intro hi
  have:=h1.2 (by omega)
  simp only [List.mem_append,List.mem_singleton] at this
  rcases this with e | e
  ·exact e
  ·omega
theorem ord_any (G:Nat→List AV) (cI:CI) {ops:Array Oper} {rops:List ROp} {π:List Nat} (ho:Ord ops rops.length π)
 (hp:pairsOk (before ops).toList rops=true) {t:List AV} {H:List Obj} {r} (h:runOps G noHp cI noH rops t H=some r):
 runOps G noHp cI noH (π.map fun i=>rops.getD i default) t H=some r:=by
 refine reorder G cI (fun i=>rops.getD i default) π (List.range rops.length) t H ?_ ?_ ?_ (by rw [pick_range];exact h)
 ·refine (List.perm_ext_iff_of_nodup List.nodup_range ho.nodup).2 fun i=>?_
  rw [ho.mem,List.mem_range]
 ·exact List.pairwise_lt_range
 ·refine ho.pair.imp_of_mem fun {a b} ha hb hab hlt=>?_
  have hasz:a < rops.length:=(ho.mem a).1 ha
  have h1:=List.all_eq_true.1 (List.all_eq_true.1 hp a (List.mem_range.2 hasz)) b (List.mem_range.2 hlt)
  have hbsz:b < rops.length:=by omega
  rw [List.getElem?_eq_getElem hasz,List.getElem?_eq_getElem hbsz,hab] at h1
  simpa [List.getD,List.getElem?_eq_getElem hasz,List.getElem?_eq_getElem hbsz] using h1
theorem sched_ord {ops:Array Oper} (h1:rankOk .any ops (fun i=>i)=true) (h2:rankOk .text ops (fun i=>i)=true)
 (h3:(let l:=Region.linearise .gc ops 0;rankOk .gc ops (fun i=>posIn i l))=true) (mixed:Bool) (τ:Nat):Ord ops ops.size (schedule mixed ops τ):=by
 unfold schedule
 split
 ·exact lin_ord (ranked_of h1) _
 ·split
  ·exact lin_ord (ranked_of h2) _
  ·exact lin_ord (ranked_of h3) _
theorem drawOk_ord {ops:Array Oper} {rops:List ROp} (hd:drawOk ops rops=true) (mixed:Bool) (τ:Nat):Ord ops ops.size (schedule mixed ops τ):=by
 simp only [drawOk,Bool.and_eq_true] at hd
 obtain ⟨⟨⟨h1,h2⟩,h3⟩,_⟩:=hd
 exact sched_ord h1 h2 h3 mixed τ
theorem drawOk_pairs {ops:Array Oper} {rops:List ROp} (hd:drawOk ops rops=true):pairsOk (before ops).toList rops=true:=by
 simp only [drawOk,Bool.and_eq_true] at hd
 exact hd.2
end Go.Am
end
section
namespace Go.Am
open Region
section
variable (G:Nat→List AV) (hp:Nat→Bool) (cI:CI) (cH:CH)
theorem runOps_consA (o:ROp) (os:List ROp) (t:List AV) (H:List Obj):
 runOps G hp cI cH (o::os) t H=match actA G hp cI cH o t H with
  | some (v,H')=>runOps G hp cI cH os (setD t o.dst v) H'
  | none=>none:=by
 rw [runOps,actA]
 cases want t o.guard with
 | none=>rfl
 | some b=>cases b<;>rfl
theorem actA_congr {o:ROp} {t:List AV} {H:List Obj} {d:Option Nat} {v:AV} (h:notIn d (readsOf o)=true):
 actA G hp cI cH o (setD t d v) H=actA G hp cI cH o t H:=by
 have hr:∀ s∈readsOf o,d≠some s:=by
  intro s hs hd
  subst hd
  simp only [notIn,Bool.not_eq_true',List.contains_eq_mem] at h
  simp [hs] at h
 unfold actA
 have hw:want (setD t d v) o.guard=want t o.guard:=by
  cases hg:o.guard with
  | none=>rfl
  | some g=>
   obtain ⟨s,b⟩:=g
   have:=hr s (by simp [readsOf,hg])
   cases d with
   | none=>rfl
   | some d=>
    have hne:d≠s:=fun e=>this (by rw [e])
    simp only [want,setD]
    rw [getD_set_ne hne]
 rw [hw]
 cases want t o.guard with
 | none=>rfl
 | some b=>
  cases b with
  | false=>rfl
  | true=>exact evalOp_congr G cI hp cH H.length fun r hm=>ev_setD G fun s hs=>hr s (by simp [readsOf];exact .inr ⟨r,hm,hs⟩)
theorem actA_pure {o:ROp} {t:List AV} {H H':List Obj} {v:AV} (hk:o.op.kind= .pure) (h:actA G hp cI cH o t H=some (v,H')):
 H'=H∧∀ K,actA G hp cI cH o t K=some (v,K):=by
 unfold actA at h ⊢
 split at h
 ·simp only [evalOp,hk] at h ⊢
  split at h
  ·rename_i u hu;simp at h;exact ⟨h.2.symm,fun K=>by simp [h.1]⟩
  ·simp at h
 ·simp at h;exact ⟨h.2.symm,fun K=>by simp [h.1]⟩
 ·simp at h
theorem actA_read {o:ROp} {t:List AV} {H H':List Obj} {v:AV} (hk:o.op.kind= .read) (h:actA G hp cI cH o t H=some (v,H')):H'=H:=by
 unfold actA at h
 split at h
 ·simp only [evalOp,hk] at h
  split at h
  ·simp at h;exact h.2.symm
  ·simp at h
 ·simp at h;exact h.2.symm
 ·simp at h
theorem swapA {a b:ROp} {os:List ROp} {t:List AV} {H:List Obj} {r} (hf:freeP a b=true)
 (h:runOps G hp cI cH (a::b::os) t H=some r):runOps G hp cI cH (b::a::os) t H=some r:=by
 simp only [freeP,Bool.and_eq_true,Bool.or_eq_true,decide_eq_true_eq] at hf
 obtain ⟨⟨⟨h1,h2⟩,h3⟩,h4⟩:=hf
 rw [runOps_consA] at h
 split at h
 case h_2=>simp at h
 rename_i v H1 ha
 rw [runOps_consA,actA_congr G hp cI cH h1] at h
 split at h
 case h_2=>simp at h
 rename_i u H2 hb
 have key:∃ Hb,actA G hp cI cH b t H=some (u,Hb)∧actA G hp cI cH a t Hb=some (v,H2):=by
  rcases h4 with (ka | kb) | ⟨ka,kb⟩
  ·obtain ⟨rfl,k⟩:=actA_pure G hp cI cH ka ha
   exact ⟨H2,hb,k H2⟩
  ·obtain ⟨rfl,k⟩:=actA_pure G hp cI cH kb hb
   exact ⟨H,k H,ha⟩
  ·obtain rfl:=actA_read G hp cI cH ka ha
   obtain rfl:=actA_read G hp cI cH kb hb
   exact ⟨_,hb,ha⟩
 obtain ⟨Hb,k1,k2⟩:=key
 rw [runOps_consA,k1]
 dsimp only
 rw [runOps_consA,actA_congr G hp cI cH h2,k2]
 dsimp only
 rw [←setD_comm h3]
 exact h
theorem frontA {a:ROp} {os:List ROp} {r}:∀ (pre:List ROp) (t:List AV) (H:List Obj),(∀ b∈pre,freeP b a=true)→
 runOps G hp cI cH (pre++a::os) t H=some r→runOps G hp cI cH (a::(pre++os)) t H=some r:=by
 intro pre
 induction pre with
 | nil=>intro t H _ h;exact h
 | cons b pre ih=>
  intro t H hf h
  refine swapA G hp cI cH (hf b (by simp)) ?_
  rw [List.cons_append,runOps_consA] at h
  rw [runOps_consA]
  cases hb:actA G hp cI cH b t H with
  | none=>rw [hb] at h;simp at h
  | some x=>
   rw [hb] at h
   exact ih _ _ (fun c hc=>hf c (by simp [hc])) h
theorem reorderA (at_:Nat→ROp) {r}:∀ (π L:List Nat) (t:List AV) (H:List Obj),L.Perm π→L.Pairwise (· < ·)→
 π.Pairwise (fun a b=>b < a→freeP (at_ b) (at_ a)=true)→
 runOps G hp cI cH (L.map at_) t H=some r→runOps G hp cI cH (π.map at_) t H=some r:=by
 intro π
 induction π with
 | nil=>intro L t H hp _ _ h;rw [List.Perm.eq_nil hp] at h;exact h
 | cons i π ih=>
  intro L t H hp' hs hπ h
  obtain ⟨L1,L2,rfl⟩:=List.append_of_mem (hp'.mem_iff.2 (by simp:i∈i::π))
  have hp2:(L1++L2).Perm π:=(List.Perm.cons_inv ((List.perm_middle (a:=i)).symm.trans hp'))
  rw [List.map_append,List.map_cons] at h
  have hlt:∀ b∈L1,b < i:=by
   intro b hb
   exact (List.pairwise_append.1 hs).2.2 b hb i (by simp)
  have h2:=frontA G hp cI cH (L1.map at_) t H (by
   intro b hb
   obtain ⟨j,hj,rfl⟩:=List.mem_map.1 hb
   exact (List.pairwise_cons.1 hπ).1 j (hp2.mem_iff.1 (by simp [hj])) (hlt j hj)) h
  rw [List.map_cons,runOps_consA]
  rw [runOps_consA] at h2
  cases ha:actA G hp cI cH (at_ i) t H with
  | none=>rw [ha] at h2;simp at h2
  | some x=>
   rw [ha] at h2
   refine ih (L1++L2) _ _ hp2 ?_ (List.pairwise_cons.1 hπ).2 (by rw [List.map_append];exact h2)
   refine hs.sublist ?_
   simp
theorem ord_anyA {ops:Array Oper} {rops:List ROp} {π:List Nat} (ho:Ord ops rops.length π)
 (hpr:pairsOkP (before ops).toList rops=true) {t:List AV} {H:List Obj} {r} (h:runOps G hp cI cH rops t H=some r):
 runOps G hp cI cH (π.map fun i=>rops.getD i default) t H=some r:=by
 refine reorderA G hp cI cH (fun i=>rops.getD i default) π (List.range rops.length) t H ?_ ?_ ?_ (by rw [pick_range];exact h)
 ·refine (List.perm_ext_iff_of_nodup List.nodup_range ho.nodup).2 fun i=>?_
  rw [ho.mem,List.mem_range]
 ·exact List.pairwise_lt_range
 ·refine ho.pair.imp_of_mem fun {a b} ha hb hab hlt=>?_
  have hasz:a < rops.length:=(ho.mem a).1 ha
  have h1:=List.all_eq_true.1 (List.all_eq_true.1 hpr a (List.mem_range.2 hasz)) b (List.mem_range.2 hlt)
  have hbsz:b < rops.length:=by omega
  rw [List.getElem?_eq_getElem hasz,List.getElem?_eq_getElem hbsz,hab] at h1
  simpa [List.getD,List.getElem?_eq_getElem hasz,List.getElem?_eq_getElem hbsz] using h1
theorem drawOkH_ord {ops:Array Oper} {rops:List ROp} (hd:drawOkH ops rops=true) (mixed:Bool) (τ:Nat):Ord ops ops.size (schedule mixed ops τ):=by
 simp only [drawOkH,Bool.and_eq_true] at hd
 obtain ⟨⟨⟨h1,h2⟩,h3⟩,_⟩:=hd
 exact sched_ord h1 h2 h3 mixed τ
theorem drawOkH_pairs {ops:Array Oper} {rops:List ROp} (hd:drawOkH ops rops=true):pairsOkP (before ops).toList rops=true:=by
 simp only [drawOkH,Bool.and_eq_true] at hd
 exact hd.2
end
end Go.Am
end
