/- Parts of my machine and its laws, joined: AmD AmE AmEh. No condition. -/
import Derived.Test.YtafgdbaekppjcaaGreatDoorAmB
set_option linter.unusedSectionVars false
set_option linter.unusedVariables false
set_option linter.unusedSimpArgs false
section
namespace Go.Am
section
variable (G:Nat->List AV) (cI:CI)
abbrev j6:CH:=fun _ _ _=>none
abbrev eF:Nat->Bool:=fun _=>false
def act (o:bD) (t:List AV) (H:List Obj):Option (AV×List Obj):=
 match want t o.guard with
 | some true=>evalOp G eF cI j6 H.length o.op t H
 | some false=>some (.bk [],H)
 | none=>none
theorem dR (o:bD) (os:List bD) (t:List AV) (H:List Obj):
 bP G eF cI j6 (o::os) t H=match act G cI o t H with
  | some (v,H')=>bP G eF cI j6 os (cO t o.dst v) H'
  | none=>none:=by
 rw [bP,act]
 cases want t o.guard with
 | none=>rfl
 | some b=>cases b<;>rfl
theorem de {l:List RX} {f g:RX->AV} (h:∀ r∈l,f r=g r):l.map f=l.map g:=List.map_congr_left h
theorem iI {l:Option RX} {f g:RX->AV} (h:∀ r∈l.toList,f r=g r):l.map f=l.map g:=by
 cases l with
 | none=>rfl
 | some x=>simp [h x (by simp)]
theorem B2 {t t':List AV} {x:RO} (h:∀ r∈x.ops,r.ev G t=r.ev G t'):aP G t x=aP G t' x:=by
 cases x<;>simp only [RO.ops] at h<;>(try rfl)
 case build z parts=>
  simp only [aP];have:parts.map (fun (x:Nat×Nat×RX)=>(x.1,x.2.1,x.2.2.ev G t))=parts.map (fun x=>(x.1,x.2.1,x.2.2.ev G t')):=
   List.map_congr_left fun x hx=>by rw [h x.2.2 (List.mem_map.2 ⟨x,hx,rfl⟩)]
  rw [this]
 case Lx f cap=>simp only [aP];rw [de h]
 case Om f cap=>simp only [aP];rw [de h]
 case mn l=>simp only [aP];rw [de h]
 case mx l=>simp only [aP];rw [de h]
 case nO x lo hi=>
  simp only [aP];rw [h x (by simp),iI (l:=lo) (fun r hr=>h r (by simp at hr ⊢;simp [hr])),iI (l:=hi) (fun r hr=>h r (by simp at hr ⊢;simp [hr]))]
 all_goals (simp only [List.mem_cons,List.not_mem_nil,or_false,forall_eq_or_imp,forall_eq] at h;simp only [aP,h])
theorem B3 {t t':List AV} {H:List Obj} {x:RO} (h:∀ r∈x.ops,r.ev G t=r.ev G t'):aQ G t H x=aQ G t' H x:=by
 cases x<;>simp only [RO.ops] at h<;>(try rfl)
 case slc sz x lo hi=>
  simp only [aQ];rw [h x (by simp),iI (l:=lo) (fun r hr=>h r (by simp at hr ⊢;simp [hr])),iI (l:=hi) (fun r hr=>h r (by simp at hr ⊢;simp [hr]))]
 case j7 len sz x lo hi=>
  simp only [aQ];rw [h x (by simp),iI (l:=lo) (fun r hr=>h r (by simp at hr ⊢;simp [hr])),iI (l:=hi) (fun r hr=>h r (by simp at hr ⊢;simp [hr]))]
 all_goals (simp only [List.mem_cons,List.not_mem_nil,or_false,forall_eq_or_imp,forall_eq] at h;simp only [aQ,h])
theorem su {t t':List AV} {H:List Obj} {pl:Nat} {x:RO} (h:∀ r∈x.ops,r.ev G t=r.ev G t'):evalW G t H pl x=evalW G t' H pl x:=by
 cases x<;>simp only [RO.ops] at h<;>(try rfl)
 case sY sz z len parts=>
  simp only [evalW];have:parts.map (fun (x:Nat×RX)=>(x.1,x.2.ev G t))=parts.map (fun x=>(x.1,x.2.ev G t')):=
   List.map_congr_left fun x hx=>by rw [h x.2 (List.mem_map.2 ⟨x,hx,rfl⟩)]
  rw [this]
 case yM z len parts=>
  simp only [evalW];have:parts.map (fun (x:Nat×RX)=>(x.1,x.2.ev G t))=parts.map (fun x=>(x.1,x.2.ev G t')):=
   List.map_congr_left fun x hx=>by rw [h x.2 (List.mem_map.2 ⟨x,hx,rfl⟩)]
  rw [this]
 all_goals (simp only [List.mem_cons,List.not_mem_nil,or_false,forall_eq_or_imp,forall_eq] at h;simp only [evalW,h])
theorem gu {t t':List AV} {H:List Obj} {x:RO} (hp:Nat->Bool) (cH:CH) (pl:Nat) (h:∀ r∈x.ops,r.ev G t=r.ev G t'):
 evalOp G hp cI cH pl x t H=evalOp G hp cI cH pl x t' H:=by
 unfold evalOp;rw [B2 G h,B3 G h,su G h]
 cases x.kind with
 | call=>
  dsimp only
  cases x with
  | call f args=>dsimp only;rw [de (l:=args) h]
  | fJ f args=>
   simp only [RO.ops,List.mem_cons,forall_eq_or_imp] at h;dsimp only;rw [h.1,de (l:=args) h.2]
  | _=>rfl
 | _=>rfl
theorem mR {t:List AV} {d s:Nat} {v:AV} (h:d≠s):(t.set d v).getD s .any=t.getD s .any:=by
 simp [List.getD,List.getElem?_set_ne h]
theorem zo {t:List AV} {d:Option Nat} {v:AV} {r:RX} (h:∀ s,Da r=some s->d≠some s):
 r.ev G (cO t d v)=r.ev G t:=by
 cases r with
 | t n=>
  cases d with
  | none=>rfl
  | some d=>
   have:d≠n:=fun e=>h n rfl (by rw [e])
   simp [RX.ev,cO,List.getD,List.getElem?_set_ne this]
 | _=>rfl
theorem xF {o:bD} {t:List AV} {H:List Obj} {d:Option Nat} {v:AV} (h:jG d (cB o)=true):
 act G cI o (cO t d v) H=act G cI o t H:=by
 have hr:∀ s∈cB o,d≠some s:=by
  intro s hs hd;subst hd;simp only [jG,Bool.not_eq_true',List.contains_eq_mem] at h;simp [hs] at h
 unfold act;have hw:want (cO t d v) o.guard=want t o.guard:=by
  cases hg:o.guard with
  | none=>rfl
  | some g=>
   obtain ⟨s,b⟩:=g;have:=hr s (by simp [cB,hg])
   cases d with
   | none=>rfl
   | some d=>
    have hne:d≠s:=fun e=>this (by rw [e])
    simp only [want,cO];rw [mR hne]
 rw [hw]
 cases want t o.guard with
 | none=>rfl
 | some b=>
  cases b with
  | false=>rfl
  | true=>
   exact gu G cI eF j6 H.length fun r hm=>zo G fun s hs=>hr s (by simp [cB];exact .inr ⟨r,hm,hs⟩)
theorem xG {x:RO} {t:List AV} {H H':List Obj} {pl:Nat} {v:AV} (hk:x.kind≠ .write) (h:evalOp G eF cI j6 pl x t H=some (v,H')):H'=H:=by
 unfold evalOp at h
 cases hx:x.kind with
 | write=>exact (hk hx).elim
 | pure=>rw [hx] at h;dsimp only at h;split at h<;>simp at h;exact h.2.symm
 | read=>rw [hx] at h;dsimp only at h;split at h<;>simp at h;exact h.2.symm
 | call=>
  rw [hx] at h;dsimp only at h;have key:∀ f args,bI eF cI j6 f args H=some (v,H')->H'=H:=by
   intro f args h;unfold bI at h;simp only [eF,Bool.false_eq_true,if_false] at h;split at h
   ·split at h
    ·split at h
     ·simp at h;exact h.2.symm
     ·simp at h
    ·simp at h
   ·simp [j6] at h
  split at h
  ·exact key _ _ h
  ·split at h
   ·exact key _ _ h
   ·exact key _ _ h
   ·simp [j6] at h
   ·simp at h
  ·simp at h
theorem y5 {o:bD} {t:List AV} {H H':List Obj} {v:AV} (hk:o.op.kind≠ .write) (h:act G cI o t H=some (v,H')):H'=H:=by
 unfold act at h;split at h
 ·exact xG G cI hk h
 ·simp at h;exact h.2.symm
 ·simp at h
theorem A0 {o:bD} {t:List AV} {H H':List Obj} {v:AV} (hk:o.op.kind= .pure) (K:List Obj) (h:act G cI o t H=some (v,H')):
 act G cI o t K=some (v,K):=by
 unfold act at h ⊢;split at h
 ·simp only [evalOp,hk] at h ⊢;split at h
  ·rename_i u hu;simp at h;simp [h.1]
  ·simp at h
 ·simp at h;simp [h.1]
 ·simp at h
theorem rD {t:List AV} {d e:Option Nat} {u v:AV} (h:ow d e=true):cO (cO t d u) e v=cO (cO t e v) d u:=by
 cases d with
 | none=>rfl
 | some d=>
  cases e with
  | none=>rfl
  | some e=>
   have:d≠e:=by simpa [ow] using h
   simp only [cO];exact List.set_comm _ _ this
theorem swap {a b:bD} {os:List bD} {t:List AV} {H:List Obj} {r} (hf:free a b=true)
 (h:bP G eF cI j6 (a::b::os) t H=some r):bP G eF cI j6 (b::a::os) t H=some r:=by
 simp only [free,Bool.and_eq_true] at hf;obtain ⟨⟨⟨h1,h2⟩,h3⟩,h4⟩:=hf;rw [dR] at h;split at h
 case h_2=>simp at h
 rename_i v H1 ha;rw [dR,xF G cI h1] at h;split at h
 case h_2=>simp at h
 rename_i u H2 hb;have key:∃ Hb,act G cI b t H=some (u,Hb)/\act G cI a t Hb=some (v,H2):=by
  by_cases ka:a.op.kind= .pure
  ·have:=y5 G cI (by rw [ka];simp) ha;subst this;exact ⟨H2,hb,A0 G cI ka H2 ha⟩
  ·by_cases kb:b.op.kind= .pure
   ·have:=y5 G cI (by rw [kb];simp) hb;subst this;exact ⟨H,A0 G cI kb H hb,ha⟩
   ·have kaw:a.op.kind≠ .write:=by
     intro e;rw [e] at h4;cases hk:b.op.kind<;>simp [kq,hk] at h4;exact kb hk
    have kbw:b.op.kind≠ .write:=by
     intro e;rw [e] at h4;cases hk:a.op.kind<;>simp [kq,hk] at h4;exact ka hk
    have e1:=y5 G cI kaw ha;subst e1;have e2:=y5 G cI kbw hb;subst e2;exact ⟨H2,hb,ha⟩
 obtain ⟨Hb,k1,k2⟩:=key;rw [dR,k1];dsimp only;rw [dR,xF G cI h2,k2];dsimp only;rw [<-rD h3];exact h
theorem front {a:bD} {os:List bD} {r}:∀ (pre:List bD) (t:List AV) (H:List Obj),(∀ b∈pre,free b a=true)->
 bP G eF cI j6 (pre++a::os) t H=some r->bP G eF cI j6 (a::(pre++os)) t H=some r:=by
 intro pre;induction pre with
 | nil=>intro t H _ h;exact h
 | cons b pre ih=>
  intro t H hf h;refine swap G cI (hf b (by simp)) ?_;rw [List.cons_append,dR] at h;rw [dR]
  cases hb:act G cI b t H with
  | none=>rw [hb] at h;simp at h
  | some x=>
   rw [hb] at h;exact ih _ _ (fun c hc=>hf c (by simp [hc])) h
theorem reorder (at_:Nat->bD) {r}:∀ (π L:List Nat) (t:List AV) (H:List Obj),L.Perm π->L.Pairwise (· < ·)->
 π.Pairwise (fun a b=>b < a->free (at_ b) (at_ a)=true)->
 bP G eF cI j6 (L.map at_) t H=some r->bP G eF cI j6 (π.map at_) t H=some r:=by
 intro π;induction π with
 | nil=>intro L t H hp _ _ h;rw [List.Perm.eq_nil hp] at h;exact h
 | cons i π ih=>
  intro L t H hp hs hπ h;obtain ⟨L1,L2,rfl⟩:=List.append_of_mem (hp.mem_iff.2 (by simp:i∈i::π));have hp':(L1++L2).Perm π:=(List.Perm.cons_inv ((List.perm_middle (a:=i)).symm.trans hp));rw [List.map_append,List.map_cons] at h;have hlt:∀ b∈L1,b < i:=by
   intro b hb;exact (List.pairwise_append.1 hs).2.2 b hb i (by simp)
  have h2:=front G cI (L1.map at_) t H (by
   intro b hb;obtain ⟨j,hj,rfl⟩:=List.mem_map.1 hb;exact (List.pairwise_cons.1 hπ).1 j (hp'.mem_iff.1 (by simp [hj])) (hlt j hj)) h
  rw [List.map_cons,dR];rw [dR] at h2
  cases ha:act G cI (at_ i) t H with
  | none=>rw [ha] at h2;simp at h2
  | some x=>
   rw [ha] at h2;refine ih (L1++L2) _ _ hp' ?_ (List.pairwise_cons.1 hπ).2 (by rw [List.map_append];exact h2);refine hs.sublist ?_;simp
end
end Go.Am
end
section
namespace Go.Am
open Region
theorem rR {m:Region.Mode} {ops:Array Oper} {j9:Nat->Nat} (h:fc m ops j9=true):qY m ops j9:=by
 intro i o ho e he hb;have hi:i < ops.size:=by
  rcases Nat.lt_or_ge i ops.size with h | h
  ·exact h
  ·simp [Array.getElem?_eq_none h] at ho
 have h1:=List.all_eq_true.1 h i (List.mem_range.2 hi);simp only [ho] at h1;have h2:=List.all_eq_true.1 h1 e he;simpa [hb] using h2
theorem xW {m:Region.Mode} {e:Edge} (h:binds .any e=true):binds m e=true:=by
 unfold binds at h ⊢
 cases hg:e.ground<;>simp [hg] at h ⊢
inductive Te (ops:Array Oper):Nat->Nat->Prop where
 | UF {j:Nat} {o:Oper} {e:Edge} (ho:ops[j]?=some o) (he:e∈o.after.toList) (hb:binds .any e=true):Te ops e.on j
 | step {i j:Nat} {o:Oper} {e:Edge} (ho:ops[j]?=some o) (he:e∈o.after.toList) (hb:binds .any e=true) (h:Te ops i e.on):Te ops i j
theorem DB (acc:Array Nat) (k:Nat):∀ (l:List Edge) (s:Nat),
 (l.foldl (fun s e=>if binds .any e then s||| 2 ^ e.on||| acc.getD e.on 0 else s) s).testBit k=true->
  s.testBit k=true\/∃ e∈l,binds .any e=true/\(e.on=k\/(acc.getD e.on 0).testBit k=true):=by
 intro l;induction l with
 | nil=>intro s h;exact .inl h
 | cons e l ih=>
  intro s h;rw [List.foldl_cons] at h;rcases ih _ h with h | ⟨e',he',h⟩
  ·by_cases hb:binds .any e=true
   ·simp only [hb,if_true,Nat.testBit_or,Bool.or_eq_true,Nat.testBit_two_pow,decide_eq_true_eq] at h;rcases h with (h | h) | h
    ·exact .inl h
    ·exact .inr ⟨e,by simp,hb,.inl h⟩
    ·exact .inr ⟨e,by simp,hb,.inr h⟩
   ·simp only [hb,if_false,Bool.false_eq_true] at h;exact .inl h
  ·exact .inr ⟨e',by simp [he'],h⟩
theorem zY (ops:Array Oper):(before ops).size=ops.size/\∀ j k,((before ops).getD j 0).testBit k=true->Te ops k j:=by
 unfold before;have key:=Array.foldl_induction (as:=ops) (motive:=fun i acc=>acc.size=i/\∀ j k,(acc.getD j 0).testBit k=true->Te ops k j)
  (init:=(#[]:Array Nat)) (f:=fun acc o=>acc.push (o.after.foldl (fun s e=>if binds .any e then s||| 2 ^ e.on||| acc.getD e.on 0 else s) 0))
  ⟨rfl,by intro j k h;simp at h⟩ (by
   rintro ⟨i,hi⟩ acc ⟨hs,hacc⟩;refine ⟨by simp [hs],?_⟩;intro j k h;rw [Array.getD_eq_getD_getElem?,Array.getElem?_push] at h;by_cases hj2:j=acc.size
   ·rw [if_pos hj2,Option.getD_some,<-Array.foldl_toList] at h;have ho:ops[j]?=some ops[i]:=by simp [hj2,hs,hi]
    rcases DB acc k _ _ h with h | ⟨e,he,hb,h⟩
    ·simp at h
    ·rcases h with rfl | h
     ·exact .UF ho he hb
     ·exact .step ho he hb (hacc _ _ h)
   ·rw [if_neg hj2,<-Array.getD_eq_getD_getElem?] at h;exact hacc j k h)
 exact key
theorem DC {m:Region.Mode} {ops:Array Oper} {l:List Nat}
 (hl:∀ l1 i l2,l=l1++i::l2->∀ o,ops[i]?=some o->∀ e∈o.after.toList,binds m e=true->e.on∈l1) {i j:Nat} (h:Te ops i j):
 ∀ l1 l2,l=l1++j::l2->i∈l1:=by
 induction h with
 | @UF j o e ho he hb=>intro l1 l2 h;exact hl l1 _ l2 h _ ho _ he (xW hb)
 | step ho he hb _ ih=>
  intro l1 l2 h;have h1:=hl l1 _ l2 h _ ho _ he (xW hb);obtain ⟨a,b,rfl⟩:=List.append_of_mem h1;have:=ih a _ (by rw [h,List.append_assoc,List.cons_append]);simp [this]
theorem vO (bz:List bD):(List.range bz.length).map (fun i=>bz.getD i default)=bz:=by
 apply List.ext_getElem
 ·simp
 ·intro i h1 h2;simp at h1;simp [List.getD,h1]
theorem Kx {m:Region.Mode} {ops:Array Oper} {j9:Nat->Nat} (hr:qY m ops j9) (τ:Nat):
 (linearise m ops τ).Pairwise (fun a b=>((before ops).toList.getD a 0).testBit b=false):=by
 obtain ⟨CC,hmem,aet⟩:=Dj hr τ;rw [List.pairwise_iff_getElem];intro i j hi hj hij;generalize ha:(linearise m ops τ)[i]=a;generalize hb:(linearise m ops τ)[j]=b
 cases h1:((before ops).toList.getD a 0).testBit b with
 | false=>rfl
 | true=>
  exfalso;have aeu:=(zY ops).2 a b (by simpa [Array.getD_eq_getD_getElem?,List.getD] using h1);have hsplit:linearise m ops τ=(linearise m ops τ).take i++a::(linearise m ops τ).drop (i+1):=by
   rw [<-ha,List.getElem_cons_drop,List.take_append_drop]
  have h2:=DC aet aeu _ _ hsplit;obtain ⟨k,hk,hke⟩:=List.getElem_of_mem h2;rw [List.getElem_take] at hke;have hk':k < i:=by simp at hk;omega
  have:=(List.pairwise_iff_getElem.1 (List.nodup_iff_pairwise_ne.1 CC)) k j (by omega) hj (by omega);exact this (hke.trans hb.symm)
structure Ord (ops:Array Oper) (n:Nat) (π:List Nat):Prop where
 nodup:π.Nodup
 mem:∀ i,i∈π↔i < n
 pair:π.Pairwise (fun a b=>((before ops).toList.getD a 0).testBit b=false)
theorem zE {m:Region.Mode} {ops:Array Oper} {j9:Nat->Nat} (hr:qY m ops j9) (τ:Nat):Ord ops ops.size (linearise m ops τ):=
 ⟨(Dj hr τ).1,(Dj hr τ).2.1,Kx hr τ⟩
theorem Ord.last {ops:Array Oper} {n:Nat} {π:List Nat} (h:Ord ops (n+1) π) (hb:∀ i,i < n->((before ops).toList.getD n 0).testBit i=true):∃ π',π=π'++[n]/\Ord ops n π':=by
 obtain ⟨l1,l2,rfl⟩:=List.append_of_mem ((h.mem n).2 (by omega));have Cs:l2=[]:=by
  cases l2 with
  | nil=>rfl
  | cons x l2=>
   exfalso;have h1:=(List.pairwise_cons.1 (List.pairwise_append.1 h.pair).2.1).1 x (by simp);have h2:x < n+1:=(h.mem x).1 (by simp);have h3:n≠x:=(List.pairwise_cons.1 (List.pairwise_append.1 (List.nodup_iff_pairwise_ne.1 h.nodup)).2.1).1 x (by simp);rw [hb x (by omega)] at h1;simp at h1
 subst Cs;refine ⟨l1,rfl,(List.nodup_append.1 h.nodup).1,fun i=>?_,(List.pairwise_append.1 h.pair).1⟩;have h1:=h.mem i;have h2:∀ a∈l1,a≠n:=fun a ha=>(List.pairwise_append.1 (List.nodup_iff_pairwise_ne.1 h.nodup)).2.2 a ha n (by simp)
 constructor
 ·intro hi;have:=h1.1 (by simp [hi]);have:=h2 i hi;omega
 ·intro hi;have:=h1.2 (by omega);simp only [List.mem_append,List.mem_singleton] at this;rcases this with e | e
  ·exact e
  ·omega
theorem Ns (G:Nat->List AV) (cI:CI) {ops:Array Oper} {bz:List bD} {π:List Nat} (ho:Ord ops bz.length π)
 (hp:zz (before ops).toList bz=true) {t:List AV} {H:List Obj} {r} (h:bP G eF cI j6 bz t H=some r):
 bP G eF cI j6 (π.map fun i=>bz.getD i default) t H=some r:=by
 refine reorder G cI (fun i=>bz.getD i default) π (List.range bz.length) t H ?_ ?_ ?_ (by rw [vO];exact h)
 ·refine (List.perm_ext_iff_of_nodup List.nodup_range ho.nodup).2 fun i=>?_
  rw [ho.mem,List.mem_range]
 ·exact List.pairwise_lt_range
 ·refine ho.pair.imp_of_mem fun {a b} ha hb hab hlt=>?_
  have sS:a < bz.length:=(ho.mem a).1 ha;have h1:=List.all_eq_true.1 (List.all_eq_true.1 hp a (List.mem_range.2 sS)) b (List.mem_range.2 hlt);have yV:b < bz.length:=by omega
  rw [List.getElem?_eq_getElem sS,List.getElem?_eq_getElem yV,hab] at h1;simpa [List.getD,List.getElem?_eq_getElem sS,List.getElem?_eq_getElem yV] using h1
theorem nB {ops:Array Oper} (h1:fc .any ops (fun i=>i)=true) (h2:fc .text ops (fun i=>i)=true)
 (h3:(let l:=Region.linearise .gc ops 0;fc .gc ops (fun i=>xj i l))=true) (mixed:Bool) (τ:Nat):Ord ops ops.size (schedule mixed ops τ):=by
 unfold schedule;split
 ·exact zE (rR h1) _
 ·split
  ·exact zE (rR h2) _
  ·exact zE (rR h3) _
theorem DD {ops:Array Oper} {bz:List bD} (hd:mD ops bz=true) (mixed:Bool) (τ:Nat):Ord ops ops.size (schedule mixed ops τ):=by
 simp only [mD,Bool.and_eq_true] at hd;obtain ⟨⟨⟨h1,h2⟩,h3⟩,_⟩:=hd;exact nB h1 h2 h3 mixed τ
theorem zZ {ops:Array Oper} {bz:List bD} (hd:mD ops bz=true):zz (before ops).toList bz=true:=by
 simp only [mD,Bool.and_eq_true] at hd;exact hd.2
end Go.Am
end
section
namespace Go.Am
open Region
section
variable (G:Nat->List AV) (hp:Nat->Bool) (cI:CI) (cH:CH)
theorem cY (o:bD) (os:List bD) (t:List AV) (H:List Obj):
 bP G hp cI cH (o::os) t H=match ic G hp cI cH o t H with
  | some (v,H')=>bP G hp cI cH os (cO t o.dst v) H'
  | none=>none:=by
 rw [bP,ic]
 cases want t o.guard with
 | none=>rfl
 | some b=>cases b<;>rfl
theorem vR {o:bD} {t:List AV} {H:List Obj} {d:Option Nat} {v:AV} (h:jG d (cB o)=true):
 ic G hp cI cH o (cO t d v) H=ic G hp cI cH o t H:=by
 have hr:∀ s∈cB o,d≠some s:=by
  intro s hs hd;subst hd;simp only [jG,Bool.not_eq_true',List.contains_eq_mem] at h;simp [hs] at h
 unfold ic;have hw:want (cO t d v) o.guard=want t o.guard:=by
  cases hg:o.guard with
  | none=>rfl
  | some g=>
   obtain ⟨s,b⟩:=g;have:=hr s (by simp [cB,hg])
   cases d with
   | none=>rfl
   | some d=>
    have hne:d≠s:=fun e=>this (by rw [e])
    simp only [want,cO];rw [mR hne]
 rw [hw]
 cases want t o.guard with
 | none=>rfl
 | some b=>
  cases b with
  | false=>rfl
  | true=>exact gu G cI hp cH H.length fun r hm=>zo G fun s hs=>hr s (by simp [cB];exact .inr ⟨r,hm,hs⟩)
theorem nD {o:bD} {t:List AV} {H H':List Obj} {v:AV} (hk:o.op.kind= .pure) (h:ic G hp cI cH o t H=some (v,H')):
 H'=H/\∀ K,ic G hp cI cH o t K=some (v,K):=by
 unfold ic at h ⊢;split at h
 ·simp only [evalOp,hk] at h ⊢;split at h
  ·rename_i u hu;simp at h;exact ⟨h.2.symm,fun K=>by simp [h.1]⟩
  ·simp at h
 ·simp at h;exact ⟨h.2.symm,fun K=>by simp [h.1]⟩
 ·simp at h
theorem nE {o:bD} {t:List AV} {H H':List Obj} {v:AV} (hk:o.op.kind= .read) (h:ic G hp cI cH o t H=some (v,H')):H'=H:=by
 unfold ic at h;split at h
 ·simp only [evalOp,hk] at h;split at h
  ·simp at h;exact h.2.symm
  ·simp at h
 ·simp at h;exact h.2.symm
 ·simp at h
theorem Wa {a b:bD} {os:List bD} {t:List AV} {H:List Obj} {r} (hf:AD a b=true)
 (h:bP G hp cI cH (a::b::os) t H=some r):bP G hp cI cH (b::a::os) t H=some r:=by
 simp only [AD,Bool.and_eq_true,Bool.or_eq_true,decide_eq_true_eq] at hf;obtain ⟨⟨⟨h1,h2⟩,h3⟩,h4⟩:=hf;rw [cY] at h;split at h
 case h_2=>simp at h
 rename_i v H1 ha;rw [cY,vR G hp cI cH h1] at h;split at h
 case h_2=>simp at h
 rename_i u H2 hb;have key:∃ Hb,ic G hp cI cH b t H=some (u,Hb)/\ic G hp cI cH a t Hb=some (v,H2):=by
  rcases h4 with (ka | kb) | ⟨ka,kb⟩
  ·obtain ⟨rfl,k⟩:=nD G hp cI cH ka ha;exact ⟨H2,hb,k H2⟩
  ·obtain ⟨rfl,k⟩:=nD G hp cI cH kb hb;exact ⟨H,k H,ha⟩
  ·obtain rfl:=nE G hp cI cH ka ha;obtain rfl:=nE G hp cI cH kb hb;exact ⟨_,hb,ha⟩
 obtain ⟨Hb,k1,k2⟩:=key;rw [cY,k1];dsimp only;rw [cY,vR G hp cI cH h2,k2];dsimp only;rw [<-rD h3];exact h
theorem Sg {a:bD} {os:List bD} {r}:∀ (pre:List bD) (t:List AV) (H:List Obj),(∀ b∈pre,AD b a=true)->
 bP G hp cI cH (pre++a::os) t H=some r->bP G hp cI cH (a::(pre++os)) t H=some r:=by
 intro pre;induction pre with
 | nil=>intro t H _ h;exact h
 | cons b pre ih=>
  intro t H hf h;refine Wa G hp cI cH (hf b (by simp)) ?_;rw [List.cons_append,cY] at h;rw [cY]
  cases hb:ic G hp cI cH b t H with
  | none=>rw [hb] at h;simp at h
  | some x=>
   rw [hb] at h;exact ih _ _ (fun c hc=>hf c (by simp [hc])) h
theorem KM (at_:Nat->bD) {r}:∀ (π L:List Nat) (t:List AV) (H:List Obj),L.Perm π->L.Pairwise (· < ·)->
 π.Pairwise (fun a b=>b < a->AD (at_ b) (at_ a)=true)->
 bP G hp cI cH (L.map at_) t H=some r->bP G hp cI cH (π.map at_) t H=some r:=by
 intro π;induction π with
 | nil=>intro L t H hp _ _ h;rw [List.Perm.eq_nil hp] at h;exact h
 | cons i π ih=>
  intro L t H hp' hs hπ h;obtain ⟨L1,L2,rfl⟩:=List.append_of_mem (hp'.mem_iff.2 (by simp:i∈i::π));have Xf:(L1++L2).Perm π:=(List.Perm.cons_inv ((List.perm_middle (a:=i)).symm.trans hp'));rw [List.map_append,List.map_cons] at h;have hlt:∀ b∈L1,b < i:=by
   intro b hb;exact (List.pairwise_append.1 hs).2.2 b hb i (by simp)
  have h2:=Sg G hp cI cH (L1.map at_) t H (by
   intro b hb;obtain ⟨j,hj,rfl⟩:=List.mem_map.1 hb;exact (List.pairwise_cons.1 hπ).1 j (Xf.mem_iff.1 (by simp [hj])) (hlt j hj)) h
  rw [List.map_cons,cY];rw [cY] at h2
  cases ha:ic G hp cI cH (at_ i) t H with
  | none=>rw [ha] at h2;simp at h2
  | some x=>
   rw [ha] at h2;refine ih (L1++L2) _ _ Xf ?_ (List.pairwise_cons.1 hπ).2 (by rw [List.map_append];exact h2);refine hs.sublist ?_;simp
theorem KN {ops:Array Oper} {bz:List bD} {π:List Nat} (ho:Ord ops bz.length π)
 (PN:uY (before ops).toList bz=true) {t:List AV} {H:List Obj} {r} (h:bP G hp cI cH bz t H=some r):
 bP G hp cI cH (π.map fun i=>bz.getD i default) t H=some r:=by
 refine KM G hp cI cH (fun i=>bz.getD i default) π (List.range bz.length) t H ?_ ?_ ?_ (by rw [vO];exact h)
 ·refine (List.perm_ext_iff_of_nodup List.nodup_range ho.nodup).2 fun i=>?_
  rw [ho.mem,List.mem_range]
 ·exact List.pairwise_lt_range
 ·refine ho.pair.imp_of_mem fun {a b} ha hb hab hlt=>?_
  have sS:a < bz.length:=(ho.mem a).1 ha;have h1:=List.all_eq_true.1 (List.all_eq_true.1 PN a (List.mem_range.2 sS)) b (List.mem_range.2 hlt);have yV:b < bz.length:=by omega
  rw [List.getElem?_eq_getElem sS,List.getElem?_eq_getElem yV,hab] at h1;simpa [List.getD,List.getElem?_eq_getElem sS,List.getElem?_eq_getElem yV] using h1
theorem Cb {ops:Array Oper} {bz:List bD} (hd:pS ops bz=true) (mixed:Bool) (τ:Nat):Ord ops ops.size (schedule mixed ops τ):=by
 simp only [pS,Bool.and_eq_true] at hd;obtain ⟨⟨⟨h1,h2⟩,h3⟩,_⟩:=hd;exact nB h1 h2 h3 mixed τ
theorem wP {ops:Array Oper} {bz:List bD} (hd:pS ops bz=true):uY (before ops).toList bz=true:=by
 simp only [pS,Bool.and_eq_true] at hd;exact hd.2
end
end Go.Am
end
