/- Parts of my machine and its laws, joined: AmD AmE AmEh AmEx. No condition. -/
import Derived.Test.YtafgdbaekppjcaaGreatDoorAmB
set_option linter.unusedSectionVars false
set_option linter.unusedVariables false
set_option linter.unusedSimpArgs false
section
namespace Go.Am
section
variable (G:Nat->List AV) (cI:CI)
abbrev kQ:CH:=fun _ _ _=>none
abbrev fc:Nat->Bool:=fun _=>false
def act (o:bH) (t:List AV) (H:List Obj):Option (AV×List Obj):=
 match want t o.guard with
 | some true=>evalOp G fc cI kQ H.length o.op t H
 | some false=>some (.bl [],H)
 | none=>none
theorem eB (o:bH) (os:List bH) (t:List AV) (H:List Obj):
 bO G fc cI kQ (o::os) t H=match act G cI o t H with
  | some (v,H')=>bO G fc cI kQ os (cY t o.dst v) H'
  | none=>none:=by
 rw [bO,act]
 cases want t o.guard with
 | none=>rfl
 | some b=>cases b<;>rfl
theorem dF {l:List RX} {f g:RX->AV} (h:∀ r∈l,f r=g r):l.map f=l.map g:=zaI h
theorem jr {l:Option RX} {f g:RX->AV} (h:∀ r∈l.toList,f r=g r):l.map f=l.map g:=by
 cases l with
 | none=>rfl
 | some x=>simp [h x (by simp)]
theorem D0 {t t':List AV} {x:RO} (h:∀ r∈x.ops,r.ev G t=r.ev G t'):aQ G t x=aQ G t' x:=by
 cases x<;>simp only [RO.ops] at h<;>(try rfl)
 case build z parts=>
  simp only [aQ];have:parts.map (fun (x:Nat×Nat×RX)=>(x.1,x.2.1,x.2.2.ev G t))=parts.map (fun x=>(x.1,x.2.1,x.2.2.ev G t')):=
   zaI fun x hx=>by rw [h x.2.2 (zbv.2 ⟨x,hx,rfl⟩)]
  rw [this]
 case N2 f cap=>simp only [aQ];rw [dF h]
 case Rh f cap=>simp only [aQ];rw [dF h]
 case mn l=>simp only [aQ];rw [dF h]
 case mx l=>simp only [aQ];rw [dF h]
 case oV x lo hi=>
  simp only [aQ];rw [h x (by simp),jr (l:=lo) (fun r hr=>h r (by simp at hr ⊢;simp [hr])),jr (l:=hi) (fun r hr=>h r (by simp at hr ⊢;simp [hr]))]
 all_goals (simp only [zam,zbD,or_false,forall_eq_or_imp,forall_eq] at h;simp only [aQ,h])
theorem D1 {t t':List AV} {H:List Obj} {x:RO} (h:∀ r∈x.ops,r.ev G t=r.ev G t'):aR G t H x=aR G t' H x:=by
 cases x<;>simp only [RO.ops] at h<;>(try rfl)
 case slc sz x lo hi=>
  simp only [aR];rw [h x (by simp),jr (l:=lo) (fun r hr=>h r (by simp at hr ⊢;simp [hr])),jr (l:=hi) (fun r hr=>h r (by simp at hr ⊢;simp [hr]))]
 case kU len sz x lo hi=>
  simp only [aR];rw [h x (by simp),jr (l:=lo) (fun r hr=>h r (by simp at hr ⊢;simp [hr])),jr (l:=hi) (fun r hr=>h r (by simp at hr ⊢;simp [hr]))]
 all_goals (simp only [zam,zbD,or_false,forall_eq_or_imp,forall_eq] at h;simp only [aR,h])
theorem um {t t':List AV} {H:List Obj} {pl:Nat} {x:RO} (h:∀ r∈x.ops,r.ev G t=r.ev G t'):evalW G t H pl x=evalW G t' H pl x:=by
 cases x<;>simp only [RO.ops] at h<;>(try rfl)
 case u5 sz z len parts=>
  simp only [evalW];have:parts.map (fun (x:Nat×RX)=>(x.1,x.2.ev G t))=parts.map (fun x=>(x.1,x.2.ev G t')):=
   zaI fun x hx=>by rw [h x.2 (zbv.2 ⟨x,hx,rfl⟩)]
  rw [this]
 case AH z len parts=>
  simp only [evalW];have:parts.map (fun (x:Nat×RX)=>(x.1,x.2.ev G t))=parts.map (fun x=>(x.1,x.2.ev G t')):=
   zaI fun x hx=>by rw [h x.2 (zbv.2 ⟨x,hx,rfl⟩)]
  rw [this]
 all_goals (simp only [zam,zbD,or_false,forall_eq_or_imp,forall_eq] at h;simp only [evalW,h])
theorem gU {t t':List AV} {H:List Obj} {x:RO} (hp:Nat->Bool) (cH:CH) (pl:Nat) (h:∀ r∈x.ops,r.ev G t=r.ev G t'):
 evalOp G hp cI cH pl x t H=evalOp G hp cI cH pl x t' H:=by
 unfold evalOp;rw [D0 G h,D1 G h,um G h]
 cases x.kind with
 | call=>
  dsimp only
  cases x with
  | call f args=>dsimp only;rw [dF (l:=args) h]
  | gr f args=>
   simp only [RO.ops,zam,forall_eq_or_imp] at h;dsimp only;rw [h.1,dF (l:=args) h.2]
  | _=>rfl
 | _=>rfl
theorem nX {t:List AV} {d s:Nat} {v:AV} (h:d≠s):(t.set d v).getD s .any=t.getD s .any:=by
 simp [List.getD,za7 h]
theorem Bj {t:List AV} {d:Option Nat} {v:AV} {r:RX} (h:∀ s,E6 r=some s->d≠some s):
 r.ev G (cY t d v)=r.ev G t:=by
 cases r with
 | t n=>
  cases d with
  | none=>rfl
  | some d=>
   have:d≠n:=fun e=>h n rfl (by rw [e])
   simp [RX.ev,cY,List.getD,za7 this]
 | _=>rfl
theorem zL {o:bH} {t:List AV} {H:List Obj} {d:Option Nat} {v:AV} (h:ko d (cM o)=true):
 act G cI o (cY t d v) H=act G cI o t H:=by
 have hr:∀ s∈cM o,d≠some s:=by
  intro s hs hd;subst hd;simp only [ko,zaW,List.contains_eq_mem] at h;simp [hs] at h
 unfold act;have hw:want (cY t d v) o.guard=want t o.guard:=by
  cases hg:o.guard with
  | none=>rfl
  | some g=>
   obtain ⟨s,b⟩:=g;have:=hr s (by simp [cM,hg])
   cases d with
   | none=>rfl
   | some d=>
    have hne:d≠s:=fun e=>this (by rw [e])
    simp only [want,cY];rw [nX hne]
 rw [hw]
 cases want t o.guard with
 | none=>rfl
 | some b=>
  cases b with
  | false=>rfl
  | true=>
   exact gU G cI fc kQ H.length fun r hm=>Bj G fun s hs=>hr s (by simp [cM];exact .inr ⟨r,hm,hs⟩)
theorem zM {x:RO} {t:List AV} {H H':List Obj} {pl:Nat} {v:AV} (hk:x.kind≠ .write) (h:evalOp G fc cI kQ pl x t H=some (v,H')):H'=H:=by
 unfold evalOp at h
 cases hx:x.kind with
 | write=>exact (hk hx).elim
 | pure=>rw [hx] at h;dsimp only at h;split at h<;>simp at h;exact h.2.symm
 | read=>rw [hx] at h;dsimp only at h;split at h<;>simp at h;exact h.2.symm
 | call=>
  rw [hx] at h;dsimp only at h;have key:∀ f args,bK fc cI kQ f args H=some (v,H')->H'=H:=by
   intro f args h;unfold bK at h;simp only [fc,za8,if_false] at h;split at h
   ·split at h
    ·split at h
     ·simp at h;exact h.2.symm
     ·simp at h
    ·simp at h
   ·simp [kQ] at h
  split at h
  ·exact key _ _ h
  ·split at h
   ·exact key _ _ h
   ·exact key _ _ h
   ·simp [kQ] at h
   ·simp at h
  ·simp at h
theorem AY {o:bH} {t:List AV} {H H':List Obj} {v:AV} (hk:o.op.kind≠ .write) (h:act G cI o t H=some (v,H')):H'=H:=by
 unfold act at h;split at h
 ·exact zM G cI hk h
 ·simp at h;exact h.2.symm
 ·simp at h
theorem CU {o:bH} {t:List AV} {H H':List Obj} {v:AV} (hk:o.op.kind= .pure) (K:List Obj) (h:act G cI o t H=some (v,H')):
 act G cI o t K=some (v,K):=by
 unfold act at h ⊢;split at h
 ·simp only [evalOp,hk] at h ⊢;split at h
  ·rename_i u hu;simp at h;simp [h.1]
  ·simp at h
 ·simp at h;simp [h.1]
 ·simp at h
theorem tj {t:List AV} {d e:Option Nat} {u v:AV} (h:pQ d e=true):cY (cY t d u) e v=cY (cY t e v) d u:=by
 cases d with
 | none=>rfl
 | some d=>
  cases e with
  | none=>rfl
  | some e=>
   have:d≠e:=by simpa [pQ] using h
   simp only [cY];exact List.set_comm _ _ this
theorem swap {a b:bH} {os:List bH} {t:List AV} {H:List Obj} {r} (hf:free a b=true)
 (h:bO G fc cI kQ (a::b::os) t H=some r):bO G fc cI kQ (b::a::os) t H=some r:=by
 simp only [free,za0] at hf;obtain ⟨⟨⟨h1,h2⟩,h3⟩,h4⟩:=hf;rw [eB] at h;split at h
 case h_2=>simp at h
 rename_i v H1 ha;rw [eB,zL G cI h1] at h;split at h
 case h_2=>simp at h
 rename_i u H2 hb;have key:∃ Hb,act G cI b t H=some (u,Hb)/\act G cI a t Hb=some (v,H2):=by
  by_cases ka:a.op.kind= .pure
  ·have:=AY G cI (by rw [ka];simp) ha;subst this;exact ⟨H2,hb,CU G cI ka H2 ha⟩
  ·by_cases kb:b.op.kind= .pure
   ·have:=AY G cI (by rw [kb];simp) hb;subst this;exact ⟨H,CU G cI kb H hb,ha⟩
   ·have kaw:a.op.kind≠ .write:=by
     intro e;rw [e] at h4;cases hk:b.op.kind<;>simp [lD,hk] at h4;exact kb hk
    have kbw:b.op.kind≠ .write:=by
     intro e;rw [e] at h4;cases hk:a.op.kind<;>simp [lD,hk] at h4;exact ka hk
    have e1:=AY G cI kaw ha;subst e1;have e2:=AY G cI kbw hb;subst e2;exact ⟨H2,hb,ha⟩
 obtain ⟨Hb,k1,k2⟩:=key;rw [eB,k1];dsimp only;rw [eB,zL G cI h2,k2];dsimp only;rw [<-tj h3];exact h
theorem front {a:bH} {os:List bH} {r}:∀ (pre:List bH) (t:List AV) (H:List Obj),(∀ b∈pre,free b a=true)->
 bO G fc cI kQ (pre++a::os) t H=some r->bO G fc cI kQ (a::(pre++os)) t H=some r:=by
 intro pre;induction pre with
 | nil=>intro t H _ h;exact h
 | cons b pre ih=>
  intro t H hf h;refine swap G cI (hf b (by simp)) ?_;rw [zaH,eB] at h;rw [eB]
  cases hb:act G cI b t H with
  | none=>rw [hb] at h;simp at h
  | some x=>
   rw [hb] at h;exact ih _ _ (fun c hc=>hf c (by simp [hc])) h
theorem reorder (at_:Nat->bH) {r}:∀ (π L:List Nat) (t:List AV) (H:List Obj),L.Perm π->L.Pairwise (· < ·)->
 π.Pairwise (fun a b=>b < a->free (at_ b) (at_ a)=true)->
 bO G fc cI kQ (L.map at_) t H=some r->bO G fc cI kQ (π.map at_) t H=some r:=by
 intro π;induction π with
 | nil=>intro L t H hp _ _ h;rw [List.Perm.eq_nil hp] at h;exact h
 | cons i π ih=>
  intro L t H hp hs hπ h;obtain ⟨L1,L2,rfl⟩:=List.append_of_mem (hp.mem_iff.2 (by simp:i∈i::π));have hp':(L1++L2).Perm π:=(List.Perm.cons_inv ((List.perm_middle (a:=i)).symm.trans hp));rw [zal,za5] at h;have hlt:∀ b∈L1,b < i:=by
   intro b hb;exact (zbx.1 hs).2.2 b hb i (by simp)
  have h2:=front G cI (L1.map at_) t H (by
   intro b hb;obtain ⟨j,hj,rfl⟩:=zbv.1 hb;exact (zaB.1 hπ).1 j (hp'.mem_iff.1 (by simp [hj])) (hlt j hj)) h
  rw [za5,eB];rw [eB] at h2
  cases ha:act G cI (at_ i) t H with
  | none=>rw [ha] at h2;simp at h2
  | some x=>
   rw [ha] at h2;refine ih (L1++L2) _ _ hp' ?_ (zaB.1 hπ).2 (by rw [zal];exact h2);refine hs.sublist ?_;simp
end
end Go.Am
end
section
namespace Go.Am
open Region
theorem tI {m:Region.Mode} {ops:Array Oper} {kX:Nat->Nat} (h:fN m ops kX=true):sO m ops kX:=by
 intro i o ho e he hb;have hi:i < ops.size:=by
  rcases zaf i ops.size with h | h
  ·exact h
  ·simp [zak h] at ho
 have h1:=zai.1 h i (zac.2 hi);simp only [ho] at h1;have h2:=zai.1 h1 e he;simpa [hb] using h2
theorem z4 {m:Region.Mode} {e:Edge} (h:binds .any e=true):binds m e=true:=by
 unfold binds at h ⊢
 cases hg:e.ground<;>simp [hg] at h ⊢
inductive We (ops:Array Oper):Nat->Nat->Prop where
 | XT {j:Nat} {o:Oper} {e:Edge} (ho:ops[j]?=some o) (he:e∈o.after.toList) (hb:binds .any e=true):We ops e.on j
 | step {i j:Nat} {o:Oper} {e:Edge} (ho:ops[j]?=some o) (he:e∈o.after.toList) (hb:binds .any e=true) (h:We ops i e.on):We ops i j
theorem FG (acc:Array Nat) (k:Nat):∀ (l:List Edge) (s:Nat),
 (l.foldl (fun s e=>if binds .any e then s||| 2 ^ e.on||| acc.getD e.on 0 else s) s).testBit k=true->
  s.testBit k=true\/∃ e∈l,binds .any e=true/\(e.on=k\/(acc.getD e.on 0).testBit k=true):=by
 intro l;induction l with
 | nil=>intro s h;exact .inl h
 | cons e l ih=>
  intro s h;rw [zc0] at h;rcases ih _ h with h | ⟨e',he',h⟩
  ·by_cases hb:binds .any e=true
   ·simp only [hb,if_true,Nat.testBit_or,zat,Nat.testBit_two_pow,decide_eq_true_eq] at h;rcases h with (h | h) | h
    ·exact .inl h
    ·exact .inr ⟨e,by simp,hb,.inl h⟩
    ·exact .inr ⟨e,by simp,hb,.inr h⟩
   ·simp only [hb,if_false,za8] at h;exact .inl h
  ·exact .inr ⟨e',by simp [he'],h⟩
theorem BL (ops:Array Oper):(before ops).size=ops.size/\∀ j k,((before ops).getD j 0).testBit k=true->We ops k j:=by
 unfold before;have key:=Array.foldl_induction (as:=ops) (motive:=fun i acc=>acc.size=i/\∀ j k,(acc.getD j 0).testBit k=true->We ops k j)
  (init:=(#[]:Array Nat)) (f:=fun acc o=>acc.push (o.after.foldl (fun s e=>if binds .any e then s||| 2 ^ e.on||| acc.getD e.on 0 else s) 0))
  ⟨rfl,by intro j k h;simp at h⟩ (by
   rintro ⟨i,hi⟩ acc ⟨hs,hacc⟩;refine ⟨by simp [hs],?_⟩;intro j k h;rw [zb9,zbl] at h;by_cases hj2:j=acc.size
   ·rw [if_pos hj2,zar,<-Array.foldl_toList] at h;have ho:ops[j]?=some ops[i]:=by simp [hj2,hs,hi]
    rcases FG acc k _ _ h with h | ⟨e,he,hb,h⟩
    ·simp at h
    ·rcases h with rfl | h
     ·exact .XT ho he hb
     ·exact .step ho he hb (hacc _ _ h)
   ·rw [if_neg hj2,<-zb9] at h;exact hacc j k h)
 exact key
theorem FH {m:Region.Mode} {ops:Array Oper} {l:List Nat}
 (hl:∀ l1 i l2,l=l1++i::l2->∀ o,ops[i]?=some o->∀ e∈o.after.toList,binds m e=true->e.on∈l1) {i j:Nat} (h:We ops i j):
 ∀ l1 l2,l=l1++j::l2->i∈l1:=by
 induction h with
 | @XT j o e ho he hb=>intro l1 l2 h;exact hl l1 _ l2 h _ ho _ he (z4 hb)
 | step ho he hb _ ih=>
  intro l1 l2 h;have h1:=hl l1 _ l2 h _ ho _ he (z4 hb);obtain ⟨a,b,rfl⟩:=List.append_of_mem h1;have:=ih a _ (by rw [h,zaz,zaH]);simp [this]
theorem ya (bE:List bH):(List.range bE.length).map (fun i=>bE.getD i default)=bE:=by
 apply zb0
 ·simp
 ·intro i h1 h2;simp at h1;simp [List.getD,h1]
theorem MZ {m:Region.Mode} {ops:Array Oper} {kX:Nat->Nat} (hr:sO m ops kX) (τ:Nat):
 (linearise m ops τ).Pairwise (fun a b=>((before ops).toList.getD a 0).testBit b=false):=by
 obtain ⟨EA,hmem,ady⟩:=Fh hr τ;rw [List.pairwise_iff_getElem];intro i j hi hj hij;generalize ha:(linearise m ops τ)[i]=a;generalize hb:(linearise m ops τ)[j]=b
 cases h1:((before ops).toList.getD a 0).testBit b with
 | false=>rfl
 | true=>
  exfalso;have adz:=(BL ops).2 a b (by simpa [zb9,List.getD] using h1);have hsplit:linearise m ops τ=(linearise m ops τ).take i++a::(linearise m ops τ).drop (i+1):=by
   rw [<-ha,List.getElem_cons_drop,zbL]
  have h2:=FH ady adz _ _ hsplit;obtain ⟨k,hk,hke⟩:=zaA h2;rw [zao] at hke;have hk':k < i:=by simp at hk;omega
  have:=(List.pairwise_iff_getElem.1 (zbA.1 EA)) k j (by omega) hj (by omega);exact this (hke.trans hb.symm)
structure Ord (ops:Array Oper) (n:Nat) (π:List Nat):Prop where
 nodup:π.Nodup
 mem:∀ i,i∈π↔i < n
 pair:π.Pairwise (fun a b=>((before ops).toList.getD a 0).testBit b=false)
theorem Bt {m:Region.Mode} {ops:Array Oper} {kX:Nat->Nat} (hr:sO m ops kX) (τ:Nat):Ord ops ops.size (linearise m ops τ):=
 ⟨(Fh hr τ).1,(Fh hr τ).2.1,MZ hr τ⟩
theorem Ord.last {ops:Array Oper} {n:Nat} {π:List Nat} (h:Ord ops (n+1) π) (hb:∀ i,i < n->((before ops).toList.getD n 0).testBit i=true):∃ π',π=π'++[n]/\Ord ops n π':=by
 obtain ⟨l1,l2,rfl⟩:=List.append_of_mem ((h.mem n).2 (by omega));have Em:l2=[]:=by
  cases l2 with
  | nil=>rfl
  | cons x l2=>
   exfalso;have h1:=(zaB.1 (zbx.1 h.pair).2.1).1 x (by simp);have h2:x < n+1:=(h.mem x).1 (by simp);have h3:n≠x:=(zaB.1 (zbx.1 (zbA.1 h.nodup)).2.1).1 x (by simp);rw [hb x (by omega)] at h1;simp at h1
 subst Em;refine ⟨l1,rfl,(List.nodup_append.1 h.nodup).1,fun i=>?_,(zbx.1 h.pair).1⟩;have h1:=h.mem i;have h2:∀ a∈l1,a≠n:=fun a ha=>(zbx.1 (zbA.1 h.nodup)).2.2 a ha n (by simp)
 constructor
 ·intro hi;have:=h1.1 (by simp [hi]);have:=h2 i hi;omega
 ·intro hi;have:=h1.2 (by omega);simp only [zbM,zaZ] at this;rcases this with e | e
  ·exact e
  ·omega
theorem Ql (G:Nat->List AV) (cI:CI) {ops:Array Oper} {bE:List bH} {π:List Nat} (ho:Ord ops bE.length π)
 (hp:Bp (before ops).toList bE=true) {t:List AV} {H:List Obj} {r} (h:bO G fc cI kQ bE t H=some r):
 bO G fc cI kQ (π.map fun i=>bE.getD i default) t H=some r:=by
 refine reorder G cI (fun i=>bE.getD i default) π (List.range bE.length) t H ?_ ?_ ?_ (by rw [ya];exact h)
 ·refine (List.perm_ext_iff_of_nodup List.nodup_range ho.nodup).2 fun i=>?_
  rw [ho.mem,zac]
 ·exact List.pairwise_lt_range
 ·refine ho.pair.imp_of_mem fun {a b} ha hb hab hlt=>?_
  have uP:a < bE.length:=(ho.mem a).1 ha;have h1:=zai.1 (zai.1 hp a (zac.2 uP)) b (zac.2 hlt);have AR:b < bE.length:=by omega
  rw [za2 uP,za2 AR,hab] at h1;simpa [List.getD,za2 uP,za2 AR] using h1
theorem oI {ops:Array Oper} (h1:fN .any ops (fun i=>i)=true) (h2:fN .text ops (fun i=>i)=true)
 (h3:(let l:=Region.linearise .gc ops 0;fN .gc ops (fun i=>zn i l))=true) (mixed:Bool) (τ:Nat):Ord ops ops.size (schedule mixed ops τ):=by
 unfold schedule;split
 ·exact Bt (tI h1) _
 ·split
  ·exact Bt (tI h2) _
  ·exact Bt (tI h3) _
theorem FI {ops:Array Oper} {bE:List bH} (hd:nK ops bE=true) (mixed:Bool) (τ:Nat):Ord ops ops.size (schedule mixed ops τ):=by
 simp only [nK,za0] at hd;obtain ⟨⟨⟨h1,h2⟩,h3⟩,_⟩:=hd;exact oI h1 h2 h3 mixed τ
theorem BM {ops:Array Oper} {bE:List bH} (hd:nK ops bE=true):Bp (before ops).toList bE=true:=by
 simp only [nK,za0] at hd;exact hd.2
end Go.Am
end
section
namespace Go.Am
open Region
section
variable (G:Nat->List AV) (hp:Nat->Bool) (cI:CI) (cH:CH)
theorem dj (o:bH) (os:List bH) (t:List AV) (H:List Obj):
 bO G hp cI cH (o::os) t H=match iW G hp cI cH o t H with
  | some (v,H')=>bO G hp cI cH os (cY t o.dst v) H'
  | none=>none:=by
 rw [bO,iW]
 cases want t o.guard with
 | none=>rfl
 | some b=>cases b<;>rfl
theorem ye {o:bH} {t:List AV} {H:List Obj} {d:Option Nat} {v:AV} (h:ko d (cM o)=true):
 iW G hp cI cH o (cY t d v) H=iW G hp cI cH o t H:=by
 have hr:∀ s∈cM o,d≠some s:=by
  intro s hs hd;subst hd;simp only [ko,zaW,List.contains_eq_mem] at h;simp [hs] at h
 unfold iW;have hw:want (cY t d v) o.guard=want t o.guard:=by
  cases hg:o.guard with
  | none=>rfl
  | some g=>
   obtain ⟨s,b⟩:=g;have:=hr s (by simp [cM,hg])
   cases d with
   | none=>rfl
   | some d=>
    have hne:d≠s:=fun e=>this (by rw [e])
    simp only [want,cY];rw [nX hne]
 rw [hw]
 cases want t o.guard with
 | none=>rfl
 | some b=>
  cases b with
  | false=>rfl
  | true=>exact gU G cI hp cH H.length fun r hm=>Bj G fun s hs=>hr s (by simp [cM];exact .inr ⟨r,hm,hs⟩)
theorem oL {o:bH} {t:List AV} {H H':List Obj} {v:AV} (hk:o.op.kind= .pure) (h:iW G hp cI cH o t H=some (v,H')):
 H'=H/\∀ K,iW G hp cI cH o t K=some (v,K):=by
 unfold iW at h ⊢;split at h
 ·simp only [evalOp,hk] at h ⊢;split at h
  ·rename_i u hu;simp at h;exact ⟨h.2.symm,fun K=>by simp [h.1]⟩
  ·simp at h
 ·simp at h;exact ⟨h.2.symm,fun K=>by simp [h.1]⟩
 ·simp at h
theorem oM {o:bH} {t:List AV} {H H':List Obj} {v:AV} (hk:o.op.kind= .read) (h:iW G hp cI cH o t H=some (v,H')):H'=H:=by
 unfold iW at h;split at h
 ·simp only [evalOp,hk] at h;split at h
  ·simp at h;exact h.2.symm
  ·simp at h
 ·simp at h;exact h.2.symm
 ·simp at h
theorem Zw {a b:bH} {os:List bH} {t:List AV} {H:List Obj} {r} (hf:Cq a b=true)
 (h:bO G hp cI cH (a::b::os) t H=some r):bO G hp cI cH (b::a::os) t H=some r:=by
 simp only [Cq,za0,zat,decide_eq_true_eq] at hf;obtain ⟨⟨⟨h1,h2⟩,h3⟩,h4⟩:=hf;rw [dj] at h;split at h
 case h_2=>simp at h
 rename_i v H1 ha;rw [dj,ye G hp cI cH h1] at h;split at h
 case h_2=>simp at h
 rename_i u H2 hb;have key:∃ Hb,iW G hp cI cH b t H=some (u,Hb)/\iW G hp cI cH a t Hb=some (v,H2):=by
  rcases h4 with (ka | kb) | ⟨ka,kb⟩
  ·obtain ⟨rfl,k⟩:=oL G hp cI cH ka ha;exact ⟨H2,hb,k H2⟩
  ·obtain ⟨rfl,k⟩:=oL G hp cI cH kb hb;exact ⟨H,k H,ha⟩
  ·obtain rfl:=oM G hp cI cH ka ha;obtain rfl:=oM G hp cI cH kb hb;exact ⟨_,hb,ha⟩
 obtain ⟨Hb,k1,k2⟩:=key;rw [dj,k1];dsimp only;rw [dj,ye G hp cI cH h2,k2];dsimp only;rw [<-tj h3];exact h
theorem Ve {a:bH} {os:List bH} {r}:∀ (pre:List bH) (t:List AV) (H:List Obj),(∀ b∈pre,Cq b a=true)->
 bO G hp cI cH (pre++a::os) t H=some r->bO G hp cI cH (a::(pre++os)) t H=some r:=by
 intro pre;induction pre with
 | nil=>intro t H _ h;exact h
 | cons b pre ih=>
  intro t H hf h;refine Zw G hp cI cH (hf b (by simp)) ?_;rw [zaH,dj] at h;rw [dj]
  cases hb:iW G hp cI cH b t H with
  | none=>rw [hb] at h;simp at h
  | some x=>
   rw [hb] at h;exact ih _ _ (fun c hc=>hf c (by simp [hc])) h
theorem Nk (at_:Nat->bH) {r}:∀ (π L:List Nat) (t:List AV) (H:List Obj),L.Perm π->L.Pairwise (· < ·)->
 π.Pairwise (fun a b=>b < a->Cq (at_ b) (at_ a)=true)->
 bO G hp cI cH (L.map at_) t H=some r->bO G hp cI cH (π.map at_) t H=some r:=by
 intro π;induction π with
 | nil=>intro L t H hp _ _ h;rw [List.Perm.eq_nil hp] at h;exact h
 | cons i π ih=>
  intro L t H hp' hs hπ h;obtain ⟨L1,L2,rfl⟩:=List.append_of_mem (hp'.mem_iff.2 (by simp:i∈i::π));have hp2:(L1++L2).Perm π:=(List.Perm.cons_inv ((List.perm_middle (a:=i)).symm.trans hp'));rw [zal,za5] at h;have hlt:∀ b∈L1,b < i:=by
   intro b hb;exact (zbx.1 hs).2.2 b hb i (by simp)
  have h2:=Ve G hp cI cH (L1.map at_) t H (by
   intro b hb;obtain ⟨j,hj,rfl⟩:=zbv.1 hb;exact (zaB.1 hπ).1 j (hp2.mem_iff.1 (by simp [hj])) (hlt j hj)) h
  rw [za5,dj];rw [dj] at h2
  cases ha:iW G hp cI cH (at_ i) t H with
  | none=>rw [ha] at h2;simp at h2
  | some x=>
   rw [ha] at h2;refine ih (L1++L2) _ _ hp2 ?_ (zaB.1 hπ).2 (by rw [zal];exact h2);refine hs.sublist ?_;simp
theorem Nl {ops:Array Oper} {bE:List bH} {π:List Nat} (ho:Ord ops bE.length π)
 (SH:xl (before ops).toList bE=true) {t:List AV} {H:List Obj} {r} (h:bO G hp cI cH bE t H=some r):
 bO G hp cI cH (π.map fun i=>bE.getD i default) t H=some r:=by
 refine Nk G hp cI cH (fun i=>bE.getD i default) π (List.range bE.length) t H ?_ ?_ ?_ (by rw [ya];exact h)
 ·refine (List.perm_ext_iff_of_nodup List.nodup_range ho.nodup).2 fun i=>?_
  rw [ho.mem,zac]
 ·exact List.pairwise_lt_range
 ·refine ho.pair.imp_of_mem fun {a b} ha hb hab hlt=>?_
  have uP:a < bE.length:=(ho.mem a).1 ha;have h1:=zai.1 (zai.1 SH a (zac.2 uP)) b (zac.2 hlt);have AR:b < bE.length:=by omega
  rw [za2 uP,za2 AR,hab] at h1;simpa [List.getD,za2 uP,za2 AR] using h1
theorem D5 {ops:Array Oper} {bE:List bH} (hd:qZ ops bE=true) (mixed:Bool) (τ:Nat):Ord ops ops.size (schedule mixed ops τ):=by
 simp only [qZ,za0] at hd;obtain ⟨⟨⟨h1,h2⟩,h3⟩,_⟩:=hd;exact oI h1 h2 h3 mixed τ
theorem yW {ops:Array Oper} {bE:List bH} (hd:qZ ops bE=true):xl (before ops).toList bE=true:=by
 simp only [qZ,za0] at hd;exact hd.2
end
end Go.Am
end
section
namespace Go.Am
open Region
mutual
theorem AV.bx:∀ {a b:AV},AV.same a b=true->a=b
 | .bool a,b,h=>by cases b<;>simp_all [AV.same]
 | .int k a,b,h=>by cases b<;>simp_all [AV.same]
 | .str a,b,h=>by cases b<;>simp_all [AV.same]
 | .g7,b,h=>by cases b<;>simp_all [AV.same]
 | .bD,b,h=>by cases b<;>simp_all [AV.same]
 | .kL,b,h=>by cases b<;>simp_all [AV.same]
 | .nr,b,h=>by cases b<;>simp_all [AV.same]
 | .pJ,b,h=>by cases b<;>simp_all [AV.same]
 | .mp a,b,h=>by cases b<;>simp_all [AV.same]
 | .ro a,b,h=>by
  cases b<;>simp only [AV.same,za8] at h;rw [AV.Aq h]
 | .own a c d e,b,h=>by cases b<;>simp_all [AV.same]
 | .bZ a,b,h=>by
  cases b<;>simp only [AV.same,za8] at h;rw [AV.gS h]
 | .aA a c d e,b,h=>by cases b<;>simp_all [AV.same]
 | .agg a,b,h=>by
  cases b<;>simp only [AV.same,za8] at h;rw [AV.gS h]
 | .bl a,b,h=>by
  cases b<;>simp only [AV.same,za8] at h;rw [AV.gS h]
 | .fn f a,b,h=>by
  cases b<;>simp only [AV.same,za8,za0] at h;rw [za3 h.1,AV.gS h.2]
 | .b8 f a,b,h=>by
  cases b<;>simp only [AV.same,za8,za0] at h;rw [za3 h.1,AV.gS h.2]
 | .any,b,h=>by cases b<;>simp_all [AV.same]
 | .fI _,b,h=>by cases b<;>simp_all [AV.same]
 | .qy _,b,h=>by cases b<;>simp_all [AV.same]
 | .arr ..,b,h=>by cases b<;>simp_all [AV.same]
theorem AV.gS:∀ {a b:List AV},AV.iL a b=true->a=b
 | [],b,h=>by cases b<;>simp_all [AV.iL]
 | x::xs,b,h=>by
  cases b<;>simp only [AV.iL,za8,za0] at h;rw [AV.bx h.1,AV.gS h.2]
theorem AV.Aq:∀ {a b:List (List AV)},AV.pW a b=true->a=b
 | [],b,h=>by cases b<;>simp_all [AV.pW]
 | x::xs,b,h=>by
  cases b<;>simp only [AV.pW,za8,za0] at h;rw [AV.gS h.1,AV.Aq h.2]
end
mutual
theorem AV.z3:∀ a:AV,AV.same a a=true
 | .bool a=>by simp [AV.same]
 | .int k a=>by simp [AV.same]
 | .str a=>by simp [AV.same]
 | .g7 | .bD | .kL | .nr | .pJ | .any=>rfl
 | .mp a=>by simp [AV.same]
 | .fI a=>by simp [AV.same]
 | .qy a=>by simp [AV.same]
 | .arr ..=>by simp [AV.same]
 | .ro a=>by rw [AV.same];exact AV.uF a
 | .own ..=>by simp [AV.same]
 | .bZ a=>by rw [AV.same];exact AV.gp a
 | .aA ..=>by simp [AV.same]
 | .agg a=>by rw [AV.same];exact AV.gp a
 | .bl a=>by rw [AV.same];exact AV.gp a
 | .fn f a=>by rw [AV.same];simp [AV.gp a]
 | .b8 f a=>by rw [AV.same];simp [AV.gp a]
theorem AV.gp:∀ a:List AV,AV.iL a a=true
 | []=>rfl
 | x::xs=>by rw [AV.iL];simp [AV.z3 x,AV.gp xs]
theorem AV.uF:∀ a:List (List AV),AV.pW a a=true
 | []=>rfl
 | x::xs=>by rw [AV.pW];simp [AV.gp x,AV.uF xs]
end
section
variable (G:Nat->List AV) (hp:Nat->Bool) (cI:CI) (cH:CH)
theorem oN {g:List Obj->Option AV} {v:AV} {A:List Obj} (h:jz g v A=true):g A=some v:=by
 unfold jz at h;split at h
 ·rename_i u hu;rw [hu,AV.bx h]
 ·simp at h
theorem Rf {t t':List AV} {r:RX} (h:∀ s,E6 r=some s->t.getD s .any=t'.getD s .any):r.ev G t=r.ev G t':=by
 cases r<;>first | rfl | (simp only [RX.ev];exact h _ rfl)
theorem Jh {o:bH} {t t':List AV} {H:List Obj} (h:∀ s∈cM o,t.getD s .any=t'.getD s .any):iW G hp cI cH o t H=iW G hp cI cH o t' H:=by
 unfold iW;have hw:want t o.guard=want t' o.guard:=by
  cases hg:o.guard with
  | none=>rfl
  | some g=>
   obtain ⟨s,b⟩:=g;simp only [want];rw [h s (by simp [cM,hg])]
 rw [hw,gU G cI hp cH H.length fun r hm=>Rf G fun s hs=>h s (by simp only [cM,zbM,List.mem_filterMap];exact .inr ⟨r,hm,hs⟩)]
theorem LS {o:bH} {t:List AV} {A:List Obj} {v:AV} (hk:o.op.kind= .read) (h:m7 G o t A=some v):iW G hp cI cH o t A=some (v,A):=by
 unfold m7 at h;unfold iW;split at h
 ·simp only [evalOp,hk,h]
 ·simp at h;rw [h]
 ·simp at h
structure Steps (bf:List Nat) (ops:List bH) (i0:Nat) (T:Nat->List AV) (Hs:Nat->List Obj) (v:Nat->AV):Prop where
 act:∀ i (hi:i < ops.length),iW G hp cI cH ops[i] (T i) (Hs i)=some (v i,Hs (i+1))/\T (i+1)=cY (T i) ops[i].dst (v i)
 uZ:∀ i j (hi:i < ops.length) (hj:j < ops.length),cS ops[i]=true->ops[j].op.kind= .read->bit bf (i0+i) (i0+j)=false->bit bf (i0+j) (i0+i)=false->
  m7 G ops[j] (T j) (Hs i)=some (v j)/\m7 G ops[j] (T j) (Hs (i+1))=some (v j)
theorem Ar (bf:List Nat):∀ (ops:List bH) (i0:Nat) (rs:List (Nat×(List Obj->Option AV)×AV)) (hs:List (Nat×List Obj×List Obj)) (t:List AV) (H:List Obj) (t':List AV) (H':List Obj),
 vQ G hp cI cH bf ops i0 rs hs t H=some (t',H')->∃ T Hs v,Steps G hp cI cH bf ops i0 T Hs v/\T 0=t/\Hs 0=H/\T ops.length=t'/\Hs ops.length=H'/\
  (∀ r∈rs,∀ i (hi:i < ops.length),cS ops[i]=true->bit bf (i0+i) r.1=false->r.2.1 (Hs i)=some r.2.2/\r.2.1 (Hs (i+1))=some r.2.2)/\
  (∀ h∈hs,∀ j (hj:j < ops.length),ops[j].op.kind= .read->bit bf (i0+j) h.1=false->m7 G ops[j] (T j) h.2.1=some (v j)/\m7 G ops[j] (T j) h.2.2=some (v j))
 | [],i0,rs,hs,t,H,t',H',h=>by
  simp only [vQ,za1,za4] at h;obtain ⟨rfl,rfl⟩:=h;exact ⟨fun _=>t,fun _=>H,fun _=> .any,⟨fun i hi=>by simp at hi,fun i j hi=>by simp at hi⟩,rfl,rfl,rfl,rfl,fun r _ i hi=>by simp at hi,fun r _ i hi=>by simp at hi⟩
 | o::os,i0,rs,hs,t,H,t',H',h=>by
  rw [vQ] at h;split at h
  ·simp at h
  rename_i v0 H1 ha;have go:∀ rs' hs',vQ G hp cI cH bf os (i0+1) rs' hs' (cY t o.dst v0) H1=some (t',H')->(∀ r∈rs,r∈rs')->(∀ h∈hs,h∈hs')->
   (o.op.kind= .read->(i0,m7 G o t,v0)∈rs'/\∀ h∈hs,bit bf i0 h.1=false->m7 G o t h.2.1=some v0/\m7 G o t h.2.2=some v0)->
   (cS o=true->(i0,H,H1)∈hs'/\∀ r∈rs,bit bf i0 r.1=false->r.2.1 H=some r.2.2/\r.2.1 H1=some r.2.2)->
   ∃ T Hs v,Steps G hp cI cH bf (o::os) i0 T Hs v/\T 0=t/\Hs 0=H/\T (o::os).length=t'/\Hs (o::os).length=H'/\
    (∀ r∈rs,∀ i (hi:i < (o::os).length),cS (o::os)[i]=true->bit bf (i0+i) r.1=false->r.2.1 (Hs i)=some r.2.2/\r.2.1 (Hs (i+1))=some r.2.2)/\
    (∀ h∈hs,∀ j (hj:j < (o::os).length),(o::os)[j].op.kind= .read->bit bf (i0+j) h.1=false->m7 G (o::os)[j] (T j) h.2.1=some (v j)/\m7 G (o::os)[j] (T j) h.2.2=some (v j)):=by
   intro rs' hs' hrun NU hhs hrd hhp;obtain ⟨T,Hs,v,hst,e1,e2,e3,e4,e5,e6⟩:=Ar bf os (i0+1) rs' hs' _ _ _ _ hrun;have hsh:∀ i,i0+1+i=i0+(i+1):=fun i=>by omega
   refine ⟨fun i=>match i with | 0=>t | i+1=>T i,fun i=>match i with | 0=>H | i+1=>Hs i,fun i=>match i with | 0=>v0 | i+1=>v i,⟨?_,?_⟩,rfl,rfl,e3,e4,?_,?_⟩
   ·intro i hi
    cases i with
    | zero=>dsimp only;rw [e1,e2];exact ⟨ha,rfl⟩
    | succ i=>exact hst.act i (by simpa using hi)
   ·intro i j hi hj so hk2 y9 EC
    cases i with
    | zero=>
     cases j with
     | zero=>simp only [zaF] at so hk2;simp [cS,hk2] at so
     | succ j=>
      have:=e6 _ (hhp so).1 j (by simpa using hj) hk2 (by rw [hsh];exact EC);dsimp only at this ⊢;rw [e2];exact this
    | succ i=>
     cases j with
     | zero=>
      have:=e5 _ (hrd hk2).1 i (by simpa using hi) so (by rw [hsh];exact y9);exact this
     | succ j=>exact hst.uZ i j (by simpa using hi) (by simpa using hj) so hk2 (by rw [hsh,hsh];exact y9) (by rw [hsh,hsh];exact EC)
   ·intro r hr i hi hk hb
    cases i with
    | zero=>dsimp only;rw [e2];exact (hhp hk).2 r hr hb
    | succ i=>exact e5 r (NU r hr) i (by simpa using hi) hk (by rw [hsh];exact hb)
   ·intro r hr j hj hk hb
    cases j with
    | zero=>exact (hrd hk).2 r hr hb
    | succ j=>exact e6 r (hhs r hr) j (by simpa using hj) hk (by rw [hsh];exact hb)
  have two:∀ {b x y:Bool},(b||(x&&y))=true->b=false->x=true/\y=true:=by intro b x y;cases b<;>simp
  split at h
  ·rename_i hk;exact go rs hs h (fun _ h=>h) (fun _ h=>h) (fun e=>by rw [hk] at e;simp at e) (fun e=>by simp [cS,hk] at e)
  ·rename_i hk;split at h
   case isFalse=>simp at h
   rename_i hc;refine go _ hs h (fun r hr=>zaC _ hr) (fun _ h=>h) (fun _=>⟨by simp,fun r hr hb=>?_⟩) (fun e=>by simp [cS,hk] at e);have:=two (zai.1 hc r hr) hb;exact ⟨oN this.1,oN this.2⟩
  ·rename_i so hk2;split at h
   case isFalse=>simp at h
   rename_i hc;refine go rs _ h (fun _ h=>h) (fun r hr=>zaC _ hr) (fun e=>(hk2 e).elim) (fun _=>⟨by simp,fun r hr hb=>?_⟩);have:=two (zai.1 hc r hr) hb;exact ⟨oN this.1,oN this.2⟩
def nH (ops:List bH) (S:Nat->Bool) (s:Nat) (x:AV) (v:Nat->AV):Nat->AV
 | 0=>x
 | n+1=>if S n=true/\(ops.getD n default).dst=some s then v n else nH ops S s x v n
theorem kK {ops:List bH} {S S':Nat->Bool} {s:Nat} {x:AV} {v:Nat->AV}:∀ {n:Nat},(∀ k < n,(ops.getD k default).dst=some s->S k=S' k)->nH ops S s x v n=nH ops S' s x v n
 | 0,_=>rfl
 | n+1,h=>by
  simp only [nH];rw [kK fun k hk=>h k (by omega)];by_cases hd:(ops.getD n default).dst=some s
  ·rw [h n (by omega) hd]
  ·simp only [hd,and_false,if_false]
theorem mH {ops:List bH} {S:Nat->Bool} {s:Nat} {x:AV} {v:Nat->AV} {j:Nat}:∀ {n:Nat},j<=n->(∀ k,j<=k->k < n->(ops.getD k default).dst=some s->S k=false)->nH ops S s x v n=nH ops S s x v j
 | 0,hj,_=>by rw [Nat.le_zero.1 hj]
 | n+1,hj,h=>by
  rcases zaf n j with h1 | h1
  ·have:j=n+1:=by omega
   rw [this]
  ·simp only [nH];rw [if_neg,mH h1 fun k h2 h3=>h k h2 (by omega)];rintro ⟨h2,h3⟩;rw [h n h1 (by omega) h3] at h2;simp at h2
variable {G} {hp} {cI} {cH}
section
variable {bf:List Nat} {ops:List bH} {T:Nat->List AV} {Hs:Nat->List Obj} {v:Nat->AV} (st:Steps G hp cI cH bf ops 0 T Hs v)
include st
theorem Steps.len:∀ i,i<=ops.length->(T i).length=(T 0).length
 | 0,_=>rfl
 | i+1,h=>by
  rw [(st.act i h).2,<-Steps.len i (by omega)];unfold cY;split<;>simp
theorem DW {t:List AV} {d:Option Nat} {u:AV} {s:Nat} (hs:s < t.length):(cY t d u).getD s .any=if d=some s then u else t.getD s .any:=by
 cases d with
 | none=>simp [cY]
 | some d=>
  simp only [cY,za1];by_cases h:d=s
  ·subst h;simp [List.getD,hs]
  ·simp [List.getD,za7 h,h]
theorem Steps.slot {s:Nat} (hs:s < (T 0).length):∀ i,i<=ops.length->(T i).getD s .any=nH ops (fun _=>true) s ((T 0).getD s .any) v i
 | 0,_=>rfl
 | i+1,h=>by
  have hl:s < (T i).length:=by rw [st.len i (by omega)];exact hs
  rw [(st.act i h).2,DW st hl,Steps.slot hs i (by omega)];have:ops.getD i default=ops[i]:=by simp [List.getD,Nat.lt_of_succ_le h]
  simp only [nH,true_and,this]
theorem Steps.still {i:Nat} (hi:i < ops.length) (hk:cS ops[i]=false):Hs (i+1)=Hs i:=by
 have h:=(st.act i hi).1;have hc:ops[i].op.kind= .pure\/ops[i].op.kind= .read:=by
  unfold cS at hk;split at hk
  ·rename_i e;exact .inl e
  ·rename_i e;exact .inr e
  ·simp at hk
 rcases hc with hc | hc
 ·exact (oL G hp cI cH hc h).1
 ·exact oM G hp cI cH hc h
theorem Steps.kG {a:Nat}:∀ b,a<=b->b<=ops.length->(∀ k (hk:k < ops.length),a<=k->k < b->cS ops[k]=false)->Hs b=Hs a
 | 0,h,_,_=>by rw [Nat.le_zero.1 h]
 | b+1,h,hb,hk=>by
  rcases zaf b a with h1 | h1
  ·have:a=b+1:=by omega
   rw [this]
  ·rw [st.still hb (hk b hb h1 (by omega))];exact Steps.kG b h1 (by omega) fun k h2 h3 h4=>hk k h2 h3 (by omega)
theorem yA {a:Nat}:∀ b,a<=b->b<=ops.length->(∀ k (hk:k < ops.length),a<=k->k < b->cS ops[k]=false)\/∃ k,∃ hk:k < ops.length,a<=k/\k < b/\cS ops[k]=true/\Hs a=Hs k
 | 0,h,_=> .inl fun k _ h1 h2=>by omega
 | b+1,h,hb=>by
  rcases zaf b a with h1 | h1
  ·exact .inl fun k _ h2 h3=>by omega
  ·rcases yA b h1 (by omega) with h2 | ⟨k,h2,h3,h4,h5,h6⟩
   ·cases hk:cS ops[b] with
    | true=>exact .inr ⟨b,hb,h1,by omega,hk,(st.kG b h1 (by omega) h2).symm⟩
    | false=>
     refine .inl fun k h3 h4 h5=>?_
     rcases zaf k b with h6 | h6
     ·exact h2 k h3 h4 h6
     ·have:k=b:=by omega
      subst this;exact hk
   ·exact .inr ⟨k,h2,h3,by omega,h5,h6⟩
theorem At {b:Nat} (hb:b<=ops.length):∀ d a,a+d=b->(∀ k (hk:k < ops.length),a<=k->k < b->cS ops[k]=false)\/∃ k,∃ hk:k < ops.length,a<=k/\k < b/\cS ops[k]=true/\Hs b=Hs (k+1)
 | 0,a,h=> .inl fun k _ h1 h2=>by omega
 | d+1,a,h=>by
  rcases At hb d (a+1) (by omega) with h2 | ⟨k,h2,h3,h4,h5,h6⟩
  ·have ha:a < ops.length:=by omega
   cases hk:cS ops[a] with
   | true=>exact .inr ⟨a,ha,by omega,by omega,hk,st.kG b (by omega) hb h2⟩
   | false=>
    refine .inl fun k h3 h4 h5=>?_
    rcases zaf a k with h6 | h6
    ·exact h2 k h3 h6 h5
    ·have:k=a:=by omega
     subst this;exact hk
  ·exact .inr ⟨k,h2,by omega,h4,h5,h6⟩
theorem LV (SH:xm bf ops=true) {i j:Nat} (hi:i < ops.length) (hj:j < ops.length) (hne:i≠j) (h1:bit bf i j=false) (h2:bit bf j i=false):
 c8 ops[i] ops[j]=true/\¬(cS ops[i]=true/\cS ops[j]=true):=by
 have key:∀ a b (ha:a < ops.length) (hb:b < ops.length),a < b->bit bf b a=false->c8 ops[a] ops[b]=true/\¬(cS ops[a]=true/\cS ops[b]=true):=by
  intro a b ha hb hab h;have:=zai.1 (zai.1 SH b (zac.2 hb)) a (zac.2 hab);rw [h,za2 ha,za2 hb] at this;simp only [zbQ,za0,zaW] at this;refine ⟨this.1,fun ⟨h3,h4⟩=>?_⟩;have:=this.2;rw [h3,h4] at this;simp at this
 rcases Nat.lt_or_gt_of_ne hne with h | h
 ·exact key i j hi hj h h2
 ·obtain ⟨k1,k2⟩:=key j i hj hi h h1;refine ⟨?_,fun ⟨a,b⟩=>k2 ⟨b,a⟩⟩;simp only [c8,za0] at k1 ⊢;refine ⟨⟨k1.1.2,k1.1.1⟩,?_⟩;have:=k1.2;revert this
  cases ops[j].dst<;>cases ops[i].dst<;>simp [pQ];intro h;exact fun e=>h e.symm
theorem Au {d:Option Nat} {l:List Nat} {s:Nat} (h:ko d l=true) (hs:s∈l):d≠some s:=by
 rintro rfl;simp [ko,hs] at h
theorem HS (SH:xm bf ops=true) (hlt:∀ i j,i < ops.length->i<=j->bit bf i j=false):∀ (π:List Nat) (S:Nat->Bool) (t:List AV) (H:List Obj),
 t.length=(T 0).length->(∀ s < (T 0).length,t.getD s .any=nH ops S s ((T 0).getD s .any) v ops.length)->
 (∃ m,m<=ops.length/\H=Hs m/\∀ k (hk:k < ops.length),cS ops[k]=true->(S k=true↔k < m))->
 (∀ j∈π,j < ops.length/\S j=false)->(∀ k < ops.length,S k=false->k∈π)->π.Nodup->π.Pairwise (fun a b=>bit bf a b=false)->
 (∀ k < ops.length,S k=true->∀ j∈π,bit bf k j=false)->
 bO G hp cI cH (π.map fun i=>ops.getD i default) t H=some (T ops.length,Hs ops.length)
 | [],S,t,H,hl,hts,⟨m,hm,hH,hmk⟩,_,hall,_,_,_=>by
  have hS:∀ k < ops.length,S k=true:=fun k hk=>by
   cases h:S k with
   | true=>rfl
   | false=>exact absurd (hall k hk h) (by simp)
  have ht:t=T ops.length:=by
   refine zb0 (by rw [hl,st.len _ (za6 _)]) fun s h1 h2=>?_
   have h3:=hts s (by omega);rw [kK (S':=fun _=>true) fun k hk _=>hS k hk,<-st.slot (by omega) _ (za6 _)] at h3;simpa [List.getD,h1,h2] using h3
  have y7:H=Hs ops.length:=by
   rw [hH];refine (st.kG _ hm (za6 _) fun k hk h1 h2=>?_).symm
   cases h:cS ops[k] with
   | false=>rfl
   | true=>have:=(hmk k hk h).1 (hS k hk);omega
  simp [bO,ht,y7]
 | j::π,S,t,H,hl,hts,⟨m,hm,hH,hmk⟩,hin,hall,EA,hpw,hdn=>by
  obtain ⟨hj,hSj⟩:=hin j (by simp);have Gf:ops.getD j default=ops[j]:=by simp [List.getD,hj]
  have hnj:j ∉ π:=(zc2.1 EA).1;have hpre:∀ k < ops.length,bit bf j k=true->S k=true:=by
   intro k hk hb
   cases h:S k with
   | true=>rfl
   | false=>
    rcases zam.1 (hall k hk h) with rfl | hk2
    ·rw [hlt k k hk (za6 _)] at hb;simp at hb
    ·rw [(zaB.1 hpw).1 k hk2] at hb;simp at hb
  have hpost:∀ k < ops.length,S k=true->bit bf k j=false:=fun k hk hs=>hdn k hk hs j (by simp)
  have Uc:∀ k (hk:k < ops.length),j < k->S k=true->c8 ops[k] ops[j]=true/\¬(cS ops[k]=true/\cS ops[j]=true):=fun k hk h hs=>
   LV st SH hk hj (by omega) (hpost k hk hs) (hlt j k hj (by omega))
  have Yi:∀ k (hk:k < ops.length),k < j->S k=false->c8 ops[k] ops[j]=true/\¬(cS ops[k]=true/\cS ops[j]=true):=fun k hk h hs=>by
   refine LV st SH hk hj (by omega) (hlt k j hk (by omega)) ?_
   cases hb:bit bf j k with
   | false=>rfl
   | true=>rw [hpre k hk hb] at hs;simp at hs
  have VR:∀ s∈cM ops[j],t.getD s .any=(T j).getD s .any:=by
   intro s hs;rcases zaf s (T 0).length with h1 | h1
   ·rw [hts s h1,st.slot h1 j (by omega)];rw [mH (Nat.le_of_lt hj) fun k h2 h3 hd=>?_]
    ·refine kK fun k hk hd=>?_
     have hk':k < ops.length:=by omega
     cases h:S k with
     | true=>rfl
     | false=>
      have:=(Yi k hk' hk h).1;simp only [c8,za0] at this;have hd':ops[k].dst=some s:=by simpa [List.getD,hk'] using hd
      exact (Au st this.1.1 hs hd').elim
    ·rcases zaf j k with h4 | h4
     ·cases h:S k with
      | false=>rfl
      | true=>
       have:=(Uc k h3 h4 h).1;simp only [c8,za0] at this;have hd':ops[k].dst=some s:=by simpa [List.getD,h3] using hd
       exact (Au st this.1.1 hs hd').elim
     ·have:k=j:=by omega
      rw [this];exact hSj
   ·have h2:(T j).length<=s:=by rw [st.len j (by omega)];exact h1
    simp [List.getD,zan h2,zan (show t.length<=s by omega)]
  obtain ⟨hact,hT⟩:=st.act j hj;have step:∃ m',m'<=ops.length/\iW G hp cI cH ops[j] t H=some (v j,Hs m')/\∀ k (hk:k < ops.length),cS ops[k]=true->((S k=true\/k=j)↔k < m'):=by
   rw [Jh G hp cI cH VR,hH]
   cases SN:cS ops[j] with
   | false=>
    have hm':∀ k (hk:k < ops.length),cS ops[k]=true->((S k=true\/k=j)↔k < m):=fun k hk h=>by
     rw [<-hmk k hk h];constructor
     ·rintro (h1 | rfl)
      ·exact h1
      ·rw [SN] at h;simp at h
     ·exact .inl
    refine ⟨m,hm,?_,hm'⟩;have hc:ops[j].op.kind= .pure\/ops[j].op.kind= .read:=by
     unfold cS at SN;split at SN
     ·rename_i e;exact .inl e
     ·rename_i e;exact .inr e
     ·simp at SN
    rcases hc with hc | hc
    ·exact (oL G hp cI cH hc hact).2 _
    ·have uZ:∀ k (hk:k < ops.length),cS ops[k]=true->bit bf k j=false->bit bf j k=false->m7 G ops[j] (T j) (Hs k)=some (v j)/\m7 G ops[j] (T j) (Hs (k+1))=some (v j):=
      fun k hk h h1 h2=>st.uZ k j hk hj h hc (by simpa using h1) (by simpa using h2)
     have same:∀ {A:List Obj},A=Hs j->iW G hp cI cH ops[j] (T j) A=some (v j,A):=by
      rintro A rfl;rw [hact,oM G hp cI cH hc hact]
     rcases Nat.le_total m j with h1 | h1
     ·rcases yA st j h1 (by omega) with h2 | ⟨k,hk,h3,h4,h5,h6⟩
      ·exact same (st.kG j h1 (by omega) h2).symm
      ·have hSk:S k=false:=by
        cases h:S k with
        | false=>rfl
        | true=>have:=(hmk k hk h5).1 h;omega
       have hb:bit bf j k=false:=by
        cases hb:bit bf j k with
        | false=>rfl
        | true=>rw [hpre k hk hb] at hSk;simp at hSk
       rw [h6];exact LS G hp cI cH hc (uZ k hk h5 (hlt k j hk (by omega)) hb).1
     ·rcases At st hm (m - j) j (by omega) with h2 | ⟨k,hk,h3,h4,h5,h6⟩
      ·exact same (st.kG m h1 hm h2)
      ·have hSk:S k=true:=(hmk k hk h5).2 h4;have hjk:j≠k:=by rintro rfl;rw [SN] at h5;simp at h5
       rw [h6];exact LS G hp cI cH hc (uZ k hk h5 (hpost k hk hSk) (hlt j k hj (by omega))).2
   | true=>
    have hS:∀ k (hk:k < ops.length),cS ops[k]=true->(S k=true↔k < j):=by
     intro k hk h;constructor
     ·intro hs;rcases zaf k j with h1 | h1
      ·exact h1
      ·rcases zaf j k with h2 | h2
       ·exact ((Uc k hk h2 hs).2 ⟨h,SN⟩).elim
       ·have:k=j:=by omega
        subst this;rw [hSj] at hs;simp at hs
     ·intro h1
      cases hs:S k with
      | true=>rfl
      | false=>exact ((Yi k hk h1 hs).2 ⟨h,SN⟩).elim
    have hmj:Hs m=Hs j:=by
     rcases Nat.le_total m j with h1 | h1
     ·refine (st.kG j h1 (by omega) fun k hk h2 h3=>?_).symm
      cases h:cS ops[k] with
      | false=>rfl
      | true=>have:=(hmk k hk h).1 ((hS k hk h).2 h3);omega
     ·refine st.kG m h1 hm fun k hk h2 h3=>?_
      cases h:cS ops[k] with
      | false=>rfl
      | true=>have:=(hS k hk h).1 ((hmk k hk h).2 h3);omega
    refine ⟨j+1,hj,by rw [hmj];exact hact,fun k hk h=>?_⟩;rw [hS k hk h];omega
  obtain ⟨m',hm',ZW,aeJ⟩:=step;rw [za5,dj,Gf,ZW];dsimp only;refine HS SH hlt π (fun k=>S k||Nat.beq k j) _ _ ?_ ?_ ⟨m',hm',rfl,fun k hk h=>?_⟩ ?_ ?_ (zc2.1 EA).2 (zaB.1 hpw).2 ?_
  ·unfold cY;split<;>simp [hl]
  ·intro s hs;rw [DW st (by omega)];split
   ·rename_i hd;rw [mH (j:=j+1) hj fun k h2 h3 hdk=>?_]
    ·simp only [nH];rw [if_pos ⟨by simp,by rw [Gf];exact hd⟩]
    ·have aeK:ops[k].dst=some s:=by simpa [List.getD,h3] using hdk
     have hnk:Nat.beq k j=false:=by
      cases hb:Nat.beq k j with
      | false=>rfl
      | true=>have:=za3 hb;omega
     simp only [hnk,Bool.or_false]
     cases h:S k with
     | false=>rfl
     | true=>
      have:=(Uc k h3 (by omega) h).1;simp only [c8,za0] at this;have:=this.2;rw [aeK,hd] at this;simp [pQ] at this
   ·rename_i hd;rw [hts s hs];refine kK fun k hk hdk=>?_
    have hnk:k≠j:=by rintro rfl;rw [Gf] at hdk;exact hd hdk
    have:Nat.beq k j=false:=by
     cases hb:Nat.beq k j with
     | false=>rfl
     | true=>exact (hnk (za3 hb)).elim
    simp [this]
  ·rw [<-aeJ k hk h];simp only [zat];constructor
   ·rintro (h1 | h1)
    ·exact .inl h1
    ·exact .inr (za3 h1)
   ·rintro (h1 | rfl)
    ·exact .inl h1
    ·exact .inr (Nat.beq_refl k)
  ·intro i hi;obtain ⟨h1,h2⟩:=hin i (by simp [hi]);refine ⟨h1,?_⟩;have hne:i≠j:=by rintro rfl;exact hnj hi
   have:Nat.beq i j=false:=by
    cases hb:Nat.beq i j with
    | false=>rfl
    | true=>exact (hne (za3 hb)).elim
   simp [h2,this]
  ·intro k hk hs;simp only [zbT] at hs;rcases zam.1 (hall k hk hs.1) with rfl | h
   ·have:=hs.2;rw [Nat.beq_refl] at this;simp at this
   ·exact h
  ·intro k hk hs i hi;simp only [zat] at hs;rcases hs with hs | hs
   ·exact hdn k hk hs i (by simp [hi])
   ·rw [za3 hs];exact (zaB.1 hpw).1 i hi
end
theorem Ns {ops:Array Oper} {bE:List bH} {π:List Nat} (ho:Ord ops bE.length π) (hd:ri ops bE=true) {t t':List AV} {H H':List Obj}
 (h:vQ G hp cI cH (before ops).toList bE 0 [] [] t H=some (t',H')):bO G hp cI cH (π.map fun i=>bE.getD i default) t H=some (t',H'):=by
 simp only [ri,za0] at hd;obtain ⟨⟨_,h1⟩,h2⟩:=hd;obtain ⟨T,Hs,v,st,rfl,rfl,rfl,rfl,_,_⟩:=Ar G hp cI cH _ bE 0 [] [] t H t' H' h;refine HS st h2 (fun i j hi hij=>?_) π (fun _=>false) _ _ rfl (fun s hs=>?_) ⟨0,zaJ _,rfl,fun k hk _=>by simp⟩ (fun j hj=>⟨(ho.mem j).1 hj,rfl⟩) (fun k hk _=>(ho.mem k).2 hk) ho.nodup ho.pair (fun k _ h=>by simp at h)
 ·have:=zai.1 h1 i (zac.2 hi);simp only [zbS] at this;exact Nat.testBit_lt_two_pow (zb3 this (Nat.pow_le_pow_right (by omega) hij))
 ·rw [mH (j:=0) (zaJ _) fun k _ _ _=>rfl];rfl
theorem D6 {ops:Array Oper} {bE:List bH} (hd:ri ops bE=true) (mixed:Bool) (τ:Nat):Ord ops ops.size (schedule mixed ops τ):=by
 simp only [ri,za0] at hd;obtain ⟨⟨⟨⟨h1,h2⟩,h3⟩,_⟩,_⟩:=hd;exact oI h1 h2 h3 mixed τ
end
end Go.Am
end
