/- Parts of my machine and its laws, joined: AmC AmD AmE AmEh. No condition. -/
import Derived.Test.YtafgdbaekppjcaaGreatDoorAmB
set_option linter.unusedSectionVars false
set_option linter.unusedVariables false
set_option linter.unusedSimpArgs false
section
namespace Go.Am
open Region
def sS (m:Region.Mode) (ops:Array Oper) (k9:Nat->Nat):Prop:=
 ∀ i o,ops[i]?=some o->∀ e∈o.after.toList,binds m e=true->e.on < ops.size/\k9 e.on < k9 i
structure Z5 (m:Region.Mode) (ops:Array Oper) (listed:Array Bool) (acc:List Nat):Prop where
 size:listed.size=ops.size
 nodup:acc.Nodup
 small:∀ i∈acc,i < ops.size
 mark:∀ i,i < ops.size->listed.getD i true=decide (i∈acc)
 order:∀ l1 i l2,acc=l2++i::l1->∀ o,ops[i]?=some o->∀ e∈o.after.toList,binds m e=true->e.on∈l1
theorem Co {m:Region.Mode} {ops:Array Oper} {k9:Nat->Nat} (hr:sS m ops k9) (acc:List Nat):
 ∀ k i,k9 i=k->i < ops.size->i ∉ acc->
  ∃ j o,j < ops.size/\j ∉ acc/\ops[j]?=some o/\∀ e∈o.after.toList,binds m e=true->e.on∈acc:=by
 intro k;induction k using Nat.strongRecOn with
 | _ k ih=>
  intro i hk hi hn;obtain ⟨o,ho⟩:∃ o,ops[i]?=some o:=⟨_,zam hi⟩;by_cases h:∀ e∈o.after.toList,binds m e=true->e.on∈acc
  ·exact ⟨i,o,hi,hn,ho,h⟩
  ·simp only [Classical.not_forall] at h;obtain ⟨e,he,hb,hna⟩:=h;obtain ⟨h1,h2⟩:=hr i o ho e he hb;exact ih (k9 e.on) (hk▸h2) e.on rfl h1 hna
theorem go_ok {m:Region.Mode} {ops:Array Oper} {k9:Nat->Nat} (hr:sS m ops k9):
 ∀ fuel t listed acc,Z5 m ops listed acc->fuel+acc.length=ops.size->
  ∃ Jd acc',linearise.go m ops fuel t listed acc=acc'.reverse/\Z5 m ops Jd acc'/\acc'.length=ops.size:=by
 intro fuel;induction fuel with
 | zero=>intro t listed acc hI hf;exact ⟨listed,acc,rfl,hI,by omega⟩
 | succ fuel ih=>
  intro t listed acc hI hf;simp only [linearise.go];generalize P9:(List.range ops.size).filter (fun i=> !listed.getD i true&&((ops[i]?).map (·.after.all fun e=> !binds m e||listed.getD e.on false)).getD false)=rs;have hmem:∀ i,i∈rs↔(i < ops.size/\i ∉ acc/\∃ o,ops[i]?=some o/\∀ e∈o.after.toList,binds m e=true->e.on∈acc):=by
   intro i;rw [<-P9,List.mem_filter,zac];constructor
   ·rintro ⟨hi,hp⟩;obtain ⟨o,ho⟩:∃ o,ops[i]?=some o:=⟨_,zam hi⟩;simp only [ho,zaN,zaz,za0,zbe,hI.mark i hi,decide_eq_false_iff_not] at hp;refine ⟨hi,hp.1,o,ho,fun e he hb=>?_⟩;have h2:=hp.2;rw [<-Array.all_toList,zaf] at h2;have h3:=h2 e he;simp only [hb,zb1,zbN] at h3;have Yh:=(hr i o ho e he hb).1;have h4:=hI.mark e.on Yh;have h5:listed.getD e.on true=listed.getD e.on false:=by
     have:e.on < listed.size:=by rw [hI.size];exact Yh
     simp [Array.getD,this]
    rw [h5,h3] at h4;simpa using h4.symm
   ·rintro ⟨hi,hn,o,ho,hall⟩;refine ⟨hi,?_⟩;simp only [ho,zaN,zaz,za0,zbe,hI.mark i hi,decide_eq_false_iff_not];refine ⟨hn,?_⟩;rw [<-Array.all_toList,zaf];intro e he;by_cases hb:binds m e=true
    ·have Yh:=(hr i o ho e he hb).1;have h4:=hI.mark e.on Yh;have h5:listed.getD e.on true=listed.getD e.on false:=by
      have:e.on < listed.size:=by rw [hI.size];exact Yh
      simp [Array.getD,this]
     rw [h5] at h4;simp [hb,h4,hall e he hb]
    ·simp [hb]
  have hne:rs≠[]:=by
   intro h0;have:∃ i,i < ops.size/\i ∉ acc:=by
    refine zbk fun aeQ=>?_
    have hall:∀ i,i < ops.size->i∈acc:=fun i hi=>zbk fun hn=>aeQ ⟨i,hi,hn⟩
    have hsub:(List.range ops.size) ⊆ acc:=fun i hi=>hall i (zac.1 hi)
    have:=List.Nodup.length_le_of_subset (List.nodup_range (n:=ops.size)) hsub;simp at this;omega
   obtain ⟨i,hi,hn⟩:=this;obtain ⟨j,o,hj,hjn,ho,hall⟩:=Co hr acc _ i rfl hi hn;have:=(hmem j).2 ⟨hj,hjn,o,ho,hall⟩;rw [h0] at this;simp at this
  have hlen:0 < rs.length:=zb3.2 hne;have hlt:t % rs.length < rs.length:=zc4 _ hlen;rw [za1 hlt];generalize hi:rs[t % rs.length]=i;have hir:i∈rs:=hi▸zax hlt;obtain ⟨h1,h2,o,ho,hall⟩:=(hmem i).1 hir;refine ih _ _ _ ⟨?_,?_,?_,?_,?_⟩ (by simp;omega)
  ·simp [hI.size]
  ·exact zbF.2 ⟨h2,hI.nodup⟩
  ·intro j hj;rcases zad.1 hj with rfl | hj
   ·exact h1
   ·exact hI.small j hj
  ·intro j hj;by_cases hji:j=i
   ·subst hji;simp [Array.getD,hI.size,hj]
   ·have:=hI.mark j hj;have hij:¬ i=j:=fun h=>hji h.symm
    rw [zbo] at this ⊢;rw [Array.getElem?_setIfInBounds,if_neg hij,this];simp [hji]
  ·intro l1 j l2 hacc o' ho' e he hb
   cases l2 with
   | nil=>
    simp only [zc3,zaL] at hacc;obtain ⟨rfl,rfl⟩:=hacc;rw [ho] at ho';injection ho' with ho';subst ho'
    exact hall e he hb
   | cons x l2=>
    simp only [zaM,zaL] at hacc;exact hI.order l1 j l2 hacc.2 o' ho' e he hb
theorem Gi {m:Region.Mode} {ops:Array Oper} {k9:Nat->Nat} (hr:sS m ops k9) (t:Nat):
 (linearise m ops t).Nodup/\(∀ i,i∈linearise m ops t↔i < ops.size)/\
  ∀ l1 i l2,linearise m ops t=l1++i::l2->∀ o,ops[i]?=some o->∀ e∈o.after.toList,binds m e=true->e.on∈l1:=by
 obtain ⟨Jd,acc',h1,hI,hlen⟩:=go_ok hr ops.size t (Array.replicate ops.size false) []
  ⟨by simp,List.nodup_nil,by simp,by intro i hi;simp [Array.getD,hi],by intro l1 i l2 h;simp at h⟩ (by simp)
 unfold linearise;rw [h1];refine ⟨zbJ.2 (List.pairwise_reverse.2 ((zbJ.1 hI.nodup).imp fun h=>h.symm)),fun i=>?_,fun l1 i l2 h o ho e he hb=>?_⟩
 ·rw [List.mem_reverse];refine ⟨hI.small i,fun hi=>?_⟩;refine zbk fun hn=>?_
  have h2:(i::acc').Nodup:=zbF.2 ⟨hn,hI.nodup⟩;have hsub:(i::acc') ⊆ List.range ops.size:=by
   intro j hj;rcases zad.1 hj with rfl | hj
   ·exact zac.2 hi
   ·exact zac.2 (hI.small j hj)
  have:=List.Nodup.length_le_of_subset h2 hsub;simp at this;omega
 ·have:acc'=l2.reverse++i::l1.reverse:=by
   have:=congrArg List.reverse h;simpa using this
  have:=hI.order _ _ _ this o ho e he hb;simpa using this
end Go.Am
end
section
namespace Go.Am
section
variable (G:Nat->List AV) (cI:CI)
abbrev kY:CH:=fun _ _ _=>none
abbrev eS:Nat->Bool:=fun _=>false
def act (o:bH) (t:List AV) (H:List Obj):Option (AV×List Obj):=
 match want t o.guard with
 | some true=>evalOp G eS cI kY H.length o.op t H
 | some false=>some (.aY [],H)
 | none=>none
theorem eo (o:bH) (os:List bH) (t:List AV) (H:List Obj):
 bP G eS cI kY (o::os) t H=match act G cI o t H with
  | some (v,H')=>bP G eS cI kY os (cR t o.dst v) H'
  | none=>none:=by
 rw [bP,act]
 cases want t o.guard with
 | none=>rfl
 | some b=>cases b<;>rfl
theorem dw {l:List RX} {f g:RX->AV} (h:∀ r∈l,f r=g r):l.map f=l.map g:=zaR h
theorem jo {l:Option RX} {f g:RX->AV} (h:∀ r∈l.toList,f r=g r):l.map f=l.map g:=by
 cases l with
 | none=>rfl
 | some x=>simp [h x (by simp)]
theorem EL {t t':List AV} {x:RO} (h:∀ r∈x.ops,r.ev G t=r.ev G t'):aN G t x=aN G t' x:=by
 cases x<;>simp only [RO.ops] at h<;>(try rfl)
 case build z parts=>
  simp only [aN];have:parts.map (fun (x:Nat×Nat×RX)=>(x.1,x.2.1,x.2.2.ev G t))=parts.map (fun x=>(x.1,x.2.1,x.2.2.ev G t')):=
   zaR fun x hx=>by rw [h x.2.2 (zaT.2 ⟨x,hx,rfl⟩)]
  rw [this]
 case Qk f cap=>simp only [aN];rw [dw h]
 case Tk f cap=>simp only [aN];rw [dw h]
 case mn l=>simp only [aN];rw [dw h]
 case mx l=>simp only [aN];rw [dw h]
 case oW x lo hi=>
  simp only [aN];rw [h x (by simp),jo (l:=lo) (fun r hr=>h r (by simp at hr ⊢;simp [hr])),jo (l:=hi) (fun r hr=>h r (by simp at hr ⊢;simp [hr]))]
 all_goals (simp only [zad,zaV,or_false,forall_eq_or_imp,forall_eq] at h;simp only [aN,h])
theorem EM {t t':List AV} {H:List Obj} {x:RO} (h:∀ r∈x.ops,r.ev G t=r.ev G t'):aO G t H x=aO G t' H x:=by
 cases x<;>simp only [RO.ops] at h<;>(try rfl)
 case slc sz x lo hi=>
  simp only [aO];rw [h x (by simp),jo (l:=lo) (fun r hr=>h r (by simp at hr ⊢;simp [hr])),jo (l:=hi) (fun r hr=>h r (by simp at hr ⊢;simp [hr]))]
 case k8 len sz x lo hi=>
  simp only [aO];rw [h x (by simp),jo (l:=lo) (fun r hr=>h r (by simp at hr ⊢;simp [hr])),jo (l:=hi) (fun r hr=>h r (by simp at hr ⊢;simp [hr]))]
 all_goals (simp only [zad,zaV,or_false,forall_eq_or_imp,forall_eq] at h;simp only [aO,h])
theorem uq {t t':List AV} {H:List Obj} {pl:Nat} {x:RO} (h:∀ r∈x.ops,r.ev G t=r.ev G t'):evalW G t H pl x=evalW G t' H pl x:=by
 cases x<;>simp only [RO.ops] at h<;>(try rfl)
 case u0 sz z len parts=>
  simp only [evalW];have:parts.map (fun (x:Nat×RX)=>(x.1,x.2.ev G t))=parts.map (fun x=>(x.1,x.2.ev G t')):=
   zaR fun x hx=>by rw [h x.2 (zaT.2 ⟨x,hx,rfl⟩)]
  rw [this]
 case A5 z len parts=>
  simp only [evalW];have:parts.map (fun (x:Nat×RX)=>(x.1,x.2.ev G t))=parts.map (fun x=>(x.1,x.2.ev G t')):=
   zaR fun x hx=>by rw [h x.2 (zaT.2 ⟨x,hx,rfl⟩)]
  rw [this]
 all_goals (simp only [zad,zaV,or_false,forall_eq_or_imp,forall_eq] at h;simp only [evalW,h])
theorem gQ {t t':List AV} {H:List Obj} {x:RO} (hp:Nat->Bool) (cH:CH) (pl:Nat) (h:∀ r∈x.ops,r.ev G t=r.ev G t'):
 evalOp G hp cI cH pl x t H=evalOp G hp cI cH pl x t' H:=by
 unfold evalOp;rw [EL G h,EM G h,uq G h]
 cases x.kind with
 | call=>
  dsimp only
  cases x with
  | call f args=>dsimp only;rw [dw (l:=args) h]
  | gf f args=>
   simp only [RO.ops,zad,forall_eq_or_imp] at h;dsimp only;rw [h.1,dw (l:=args) h.2]
  | _=>rfl
 | _=>rfl
theorem nY {t:List AV} {d s:Nat} {v:AV} (h:d≠s):(t.set d v).getD s .any=t.getD s .any:=by
 simp [List.getD,za6 h]
theorem BI {t:List AV} {d:Option Nat} {v:AV} {r:RX} (h:∀ s,F6 r=some s->d≠some s):
 r.ev G (cR t d v)=r.ev G t:=by
 cases r with
 | t n=>
  cases d with
  | none=>rfl
  | some d=>
   have:d≠n:=fun e=>h n rfl (by rw [e])
   simp [RX.ev,cR,List.getD,za6 this]
 | _=>rfl
theorem zW {o:bH} {t:List AV} {H:List Obj} {d:Option Nat} {v:AV} (h:kz d (cE o)=true):
 act G cI o (cR t d v) H=act G cI o t H:=by
 have hr:∀ s∈cE o,d≠some s:=by
  intro s hs hd;subst hd;simp only [kz,zbe,List.contains_eq_mem] at h;simp [hs] at h
 unfold act;have hw:want (cR t d v) o.guard=want t o.guard:=by
  cases hg:o.guard with
  | none=>rfl
  | some g=>
   obtain ⟨s,b⟩:=g;have:=hr s (by simp [cE,hg])
   cases d with
   | none=>rfl
   | some d=>
    have hne:d≠s:=fun e=>this (by rw [e])
    simp only [want,cR];rw [nY hne]
 rw [hw]
 cases want t o.guard with
 | none=>rfl
 | some b=>
  cases b with
  | false=>rfl
  | true=>
   exact gQ G cI eS kY H.length fun r hm=>BI G fun s hs=>hr s (by simp [cE];exact .inr ⟨r,hm,hs⟩)
theorem zX {x:RO} {t:List AV} {H H':List Obj} {pl:Nat} {v:AV} (hk:x.kind≠ .write) (h:evalOp G eS cI kY pl x t H=some (v,H')):H'=H:=by
 unfold evalOp at h
 cases hx:x.kind with
 | write=>exact (hk hx).elim
 | pure=>rw [hx] at h;dsimp only at h;split at h<;>simp at h;exact h.2.symm
 | read=>rw [hx] at h;dsimp only at h;split at h<;>simp at h;exact h.2.symm
 | call=>
  rw [hx] at h;dsimp only at h;have key:∀ f args,bJ eS cI kY f args H=some (v,H')->H'=H:=by
   intro f args h;unfold bJ at h;simp only [eS,za9,if_false] at h;split at h
   ·split at h
    ·split at h
     ·simp at h;exact h.2.symm
     ·simp at h
    ·simp at h
   ·simp [kY] at h
  split at h
  ·exact key _ _ h
  ·split at h
   ·exact key _ _ h
   ·exact key _ _ h
   ·simp [kY] at h
   ·simp at h
  ·simp at h
theorem Bp {o:bH} {t:List AV} {H H':List Obj} {v:AV} (hk:o.op.kind≠ .write) (h:act G cI o t H=some (v,H')):H'=H:=by
 unfold act at h;split at h
 ·exact zX G cI hk h
 ·simp at h;exact h.2.symm
 ·simp at h
theorem Du {o:bH} {t:List AV} {H H':List Obj} {v:AV} (hk:o.op.kind= .pure) (K:List Obj) (h:act G cI o t H=some (v,H')):
 act G cI o t K=some (v,K):=by
 unfold act at h ⊢;split at h
 ·simp only [evalOp,hk] at h ⊢;split at h
  ·rename_i u hu;simp at h;simp [h.1]
  ·simp at h
 ·simp at h;simp [h.1]
 ·simp at h
theorem tu {t:List AV} {d e:Option Nat} {u v:AV} (h:pU d e=true):cR (cR t d u) e v=cR (cR t e v) d u:=by
 cases d with
 | none=>rfl
 | some d=>
  cases e with
  | none=>rfl
  | some e=>
   have:d≠e:=by simpa [pU] using h
   simp only [cR];exact List.set_comm _ _ this
theorem swap {a b:bH} {os:List bH} {t:List AV} {H:List Obj} {r} (hf:free a b=true)
 (h:bP G eS cI kY (a::b::os) t H=some r):bP G eS cI kY (b::a::os) t H=some r:=by
 simp only [free,za0] at hf;obtain ⟨⟨⟨h1,h2⟩,h3⟩,h4⟩:=hf;rw [eo] at h;split at h
 case h_2=>simp at h
 rename_i v H1 ha;rw [eo,zW G cI h1] at h;split at h
 case h_2=>simp at h
 rename_i u H2 hb;have key:∃ Hb,act G cI b t H=some (u,Hb)/\act G cI a t Hb=some (v,H2):=by
  by_cases ka:a.op.kind= .pure
  ·have:=Bp G cI (by rw [ka];simp) ha;subst this;exact ⟨H2,hb,Du G cI ka H2 ha⟩
  ·by_cases kb:b.op.kind= .pure
   ·have:=Bp G cI (by rw [kb];simp) hb;subst this;exact ⟨H,Du G cI kb H hb,ha⟩
   ·have kaw:a.op.kind≠ .write:=by
     intro e;rw [e] at h4;cases hk:b.op.kind<;>simp [lJ,hk] at h4;exact kb hk
    have kbw:b.op.kind≠ .write:=by
     intro e;rw [e] at h4;cases hk:a.op.kind<;>simp [lJ,hk] at h4;exact ka hk
    have e1:=Bp G cI kaw ha;subst e1;have e2:=Bp G cI kbw hb;subst e2;exact ⟨H2,hb,ha⟩
 obtain ⟨Hb,k1,k2⟩:=key;rw [eo,k1];dsimp only;rw [eo,zW G cI h2,k2];dsimp only;rw [<-tu h3];exact h
theorem front {a:bH} {os:List bH} {r}:∀ (pre:List bH) (t:List AV) (H:List Obj),(∀ b∈pre,free b a=true)->
 bP G eS cI kY (pre++a::os) t H=some r->bP G eS cI kY (a::(pre++os)) t H=some r:=by
 intro pre;induction pre with
 | nil=>intro t H _ h;exact h
 | cons b pre ih=>
  intro t H hf h;refine swap G cI (hf b (by simp)) ?_;rw [zaM,eo] at h;rw [eo]
  cases hb:act G cI b t H with
  | none=>rw [hb] at h;simp at h
  | some x=>
   rw [hb] at h;exact ih _ _ (fun c hc=>hf c (by simp [hc])) h
theorem reorder (at_:Nat->bH) {r}:∀ (π L:List Nat) (t:List AV) (H:List Obj),L.Perm π->L.Pairwise (· < ·)->
 π.Pairwise (fun a b=>b < a->free (at_ b) (at_ a)=true)->
 bP G eS cI kY (L.map at_) t H=some r->bP G eS cI kY (π.map at_) t H=some r:=by
 intro π;induction π with
 | nil=>intro L t H hp _ _ h;rw [List.Perm.eq_nil hp] at h;exact h
 | cons i π ih=>
  intro L t H hp hs hπ h;obtain ⟨L1,L2,rfl⟩:=List.append_of_mem (hp.mem_iff.2 (by simp:i∈i::π));have hp':(L1++L2).Perm π:=(List.Perm.cons_inv ((List.perm_middle (a:=i)).symm.trans hp));rw [zal,za5] at h;have hlt:∀ b∈L1,b < i:=by
   intro b hb;exact (zbD.1 hs).2.2 b hb i (by simp)
  have h2:=front G cI (L1.map at_) t H (by
   intro b hb;obtain ⟨j,hj,rfl⟩:=zaT.1 hb;exact (zaJ.1 hπ).1 j (hp'.mem_iff.1 (by simp [hj])) (hlt j hj)) h
  rw [za5,eo];rw [eo] at h2
  cases ha:act G cI (at_ i) t H with
  | none=>rw [ha] at h2;simp at h2
  | some x=>
   rw [ha] at h2;refine ih (L1++L2) _ _ hp' ?_ (zaJ.1 hπ).2 (by rw [zal];exact h2);refine hs.sublist ?_;simp
end
end Go.Am
end
section
namespace Go.Am
open Region
theorem tL {m:Region.Mode} {ops:Array Oper} {k9:Nat->Nat} (h:fH m ops k9=true):sS m ops k9:=by
 intro i o ho e he hb;have hi:i < ops.size:=by
  rcases zak i ops.size with h | h
  ·exact h
  ·simp [zan h] at ho
 have h1:=zaf.1 h i (zac.2 hi);simp only [ho] at h1;have h2:=zaf.1 h1 e he;simpa [hb] using h2
theorem Aj {m:Region.Mode} {e:Edge} (h:binds .any e=true):binds m e=true:=by
 unfold binds at h ⊢
 cases hg:e.ground<;>simp [hg] at h ⊢
inductive Ya (ops:Array Oper):Nat->Nat->Prop where
 | ZR {j:Nat} {o:Oper} {e:Edge} (ho:ops[j]?=some o) (he:e∈o.after.toList) (hb:binds .any e=true):Ya ops e.on j
 | step {i j:Nat} {o:Oper} {e:Edge} (ho:ops[j]?=some o) (he:e∈o.after.toList) (hb:binds .any e=true) (h:Ya ops i e.on):Ya ops i j
theorem GL (acc:Array Nat) (k:Nat):∀ (l:List Edge) (s:Nat),
 (l.foldl (fun s e=>if binds .any e then s||| 2 ^ e.on||| acc.getD e.on 0 else s) s).testBit k=true->
  s.testBit k=true\/∃ e∈l,binds .any e=true/\(e.on=k\/(acc.getD e.on 0).testBit k=true):=by
 intro l;induction l with
 | nil=>intro s h;exact .inl h
 | cons e l ih=>
  intro s h;rw [List.foldl_cons] at h;rcases ih _ h with h | ⟨e',he',h⟩
  ·by_cases hb:binds .any e=true
   ·simp only [hb,if_true,Nat.testBit_or,zat,Nat.testBit_two_pow,decide_eq_true_eq] at h;rcases h with (h | h) | h
    ·exact .inl h
    ·exact .inr ⟨e,by simp,hb,.inl h⟩
    ·exact .inr ⟨e,by simp,hb,.inr h⟩
   ·simp only [hb,if_false,za9] at h;exact .inl h
  ·exact .inr ⟨e',by simp [he'],h⟩
theorem Cl (ops:Array Oper):(before ops).size=ops.size/\∀ j k,((before ops).getD j 0).testBit k=true->Ya ops k j:=by
 unfold before;have key:=Array.foldl_induction (as:=ops) (motive:=fun i acc=>acc.size=i/\∀ j k,(acc.getD j 0).testBit k=true->Ya ops k j)
  (init:=(#[]:Array Nat)) (f:=fun acc o=>acc.push (o.after.foldl (fun s e=>if binds .any e then s||| 2 ^ e.on||| acc.getD e.on 0 else s) 0))
  ⟨rfl,by intro j k h;simp at h⟩ (by
   rintro ⟨i,hi⟩ acc ⟨hs,hacc⟩;refine ⟨by simp [hs],?_⟩;intro j k h;rw [zbo,zbx] at h;by_cases hj2:j=acc.size
   ·rw [if_pos hj2,zaz,<-Array.foldl_toList] at h;have ho:ops[j]?=some ops[i]:=by simp [hj2,hs,hi]
    rcases GL acc k _ _ h with h | ⟨e,he,hb,h⟩
    ·simp at h
    ·rcases h with rfl | h
     ·exact .ZR ho he hb
     ·exact .step ho he hb (hacc _ _ h)
   ·rw [if_neg hj2,<-zbo] at h;exact hacc j k h)
 exact key
theorem GM {m:Region.Mode} {ops:Array Oper} {l:List Nat}
 (hl:∀ l1 i l2,l=l1++i::l2->∀ o,ops[i]?=some o->∀ e∈o.after.toList,binds m e=true->e.on∈l1) {i j:Nat} (h:Ya ops i j):
 ∀ l1 l2,l=l1++j::l2->i∈l1:=by
 induction h with
 | @ZR j o e ho he hb=>intro l1 l2 h;exact hl l1 _ l2 h _ ho _ he (Aj hb)
 | step ho he hb _ ih=>
  intro l1 l2 h;have h1:=hl l1 _ l2 h _ ho _ he (Aj hb);obtain ⟨a,b,rfl⟩:=List.append_of_mem h1;have:=ih a _ (by rw [h,zaH,zaM]);simp [this]
theorem yh (bE:List bH):(List.range bE.length).map (fun i=>bE.getD i default)=bE:=by
 apply zb4
 ·simp
 ·intro i h1 h2;simp at h1;simp [List.getD,h1]
theorem O9 {m:Region.Mode} {ops:Array Oper} {k9:Nat->Nat} (hr:sS m ops k9) (τ:Nat):
 (linearise m ops τ).Pairwise (fun a b=>((before ops).toList.getD a 0).testBit b=false):=by
 obtain ⟨Fy,hmem,adG⟩:=Gi hr τ;rw [List.pairwise_iff_getElem];intro i j hi hj hij;generalize ha:(linearise m ops τ)[i]=a;generalize hb:(linearise m ops τ)[j]=b
 cases h1:((before ops).toList.getD a 0).testBit b with
 | false=>rfl
 | true=>
  exfalso;have adH:=(Cl ops).2 a b (by simpa [zbo,List.getD] using h1);have hsplit:linearise m ops τ=(linearise m ops τ).take i++a::(linearise m ops τ).drop (i+1):=by
   rw [<-ha,List.getElem_cons_drop,zbU]
  have h2:=GM adG adH _ _ hsplit;obtain ⟨k,hk,hke⟩:=zaE h2;rw [zar] at hke;have hk':k < i:=by simp at hk;omega
  have:=(List.pairwise_iff_getElem.1 (zbJ.1 Fy)) k j (by omega) hj (by omega);exact this (hke.trans hb.symm)
structure Ord (ops:Array Oper) (n:Nat) (π:List Nat):Prop where
 nodup:π.Nodup
 mem:∀ i,i∈π↔i < n
 pair:π.Pairwise (fun a b=>((before ops).toList.getD a 0).testBit b=false)
theorem BY {m:Region.Mode} {ops:Array Oper} {k9:Nat->Nat} (hr:sS m ops k9) (τ:Nat):Ord ops ops.size (linearise m ops τ):=
 ⟨(Gi hr τ).1,(Gi hr τ).2.1,O9 hr τ⟩
theorem Ord.last {ops:Array Oper} {n:Nat} {π:List Nat} (h:Ord ops (n+1) π) (hb:∀ i,i < n->((before ops).toList.getD n 0).testBit i=true):∃ π',π=π'++[n]/\Ord ops n π':=by
 obtain ⟨l1,l2,rfl⟩:=List.append_of_mem ((h.mem n).2 (by omega));have zm:l2=[]:=by
  cases l2 with
  | nil=>rfl
  | cons x l2=>
   exfalso;have h1:=(zaJ.1 (zbD.1 h.pair).2.1).1 x (by simp);have h2:x < n+1:=(h.mem x).1 (by simp);have h3:n≠x:=(zaJ.1 (zbD.1 (zbJ.1 h.nodup)).2.1).1 x (by simp);rw [hb x (by omega)] at h1;simp at h1
 subst zm;refine ⟨l1,rfl,(List.nodup_append.1 h.nodup).1,fun i=>?_,(zbD.1 h.pair).1⟩;have h1:=h.mem i;have h2:∀ a∈l1,a≠n:=fun a ha=>(zbD.1 (zbJ.1 h.nodup)).2.2 a ha n (by simp)
 constructor
 ·intro hi;have:=h1.1 (by simp [hi]);have:=h2 i hi;omega
 ·intro hi;have:=h1.2 (by omega);simp only [zaZ,zba] at this;rcases this with e | e
  ·exact e
  ·omega
theorem Ss (G:Nat->List AV) (cI:CI) {ops:Array Oper} {bE:List bH} {π:List Nat} (ho:Ord ops bE.length π)
 (hp:BS (before ops).toList bE=true) {t:List AV} {H:List Obj} {r} (h:bP G eS cI kY bE t H=some r):
 bP G eS cI kY (π.map fun i=>bE.getD i default) t H=some r:=by
 refine reorder G cI (fun i=>bE.getD i default) π (List.range bE.length) t H ?_ ?_ ?_ (by rw [yh];exact h)
 ·refine (List.perm_ext_iff_of_nodup List.nodup_range ho.nodup).2 fun i=>?_
  rw [ho.mem,zac]
 ·exact List.pairwise_lt_range
 ·refine ho.pair.imp_of_mem fun {a b} ha hb hab hlt=>?_
  have uW:a < bE.length:=(ho.mem a).1 ha;have h1:=zaf.1 (zaf.1 hp a (zac.2 uW)) b (zac.2 hlt);have Bj:b < bE.length:=by omega
  rw [za1 uW,za1 Bj,hab] at h1;simpa [List.getD,za1 uW,za1 Bj] using h1
theorem oK {ops:Array Oper} (h1:fH .any ops (fun i=>i)=true) (h2:fH .text ops (fun i=>i)=true)
 (h3:(let l:=Region.linearise .gc ops 0;fH .gc ops (fun i=>zC i l))=true) (mixed:Bool) (τ:Nat):Ord ops ops.size (schedule mixed ops τ):=by
 unfold schedule;split
 ·exact BY (tL h1) _
 ·split
  ·exact BY (tL h2) _
  ·exact BY (tL h3) _
theorem GN {ops:Array Oper} {bE:List bH} (hd:nJ ops bE=true) (mixed:Bool) (τ:Nat):Ord ops ops.size (schedule mixed ops τ):=by
 simp only [nJ,za0] at hd;obtain ⟨⟨⟨h1,h2⟩,h3⟩,_⟩:=hd;exact oK h1 h2 h3 mixed τ
theorem Cm {ops:Array Oper} {bE:List bH} (hd:nJ ops bE=true):BS (before ops).toList bE=true:=by
 simp only [nJ,za0] at hd;exact hd.2
end Go.Am
end
section
namespace Go.Am
open Region
section
variable (G:Nat->List AV) (hp:Nat->Bool) (cI:CI) (cH:CH)
theorem de (o:bH) (os:List bH) (t:List AV) (H:List Obj):
 bP G hp cI cH (o::os) t H=match iV G hp cI cH o t H with
  | some (v,H')=>bP G hp cI cH os (cR t o.dst v) H'
  | none=>none:=by
 rw [bP,iV]
 cases want t o.guard with
 | none=>rfl
 | some b=>cases b<;>rfl
theorem ym {o:bH} {t:List AV} {H:List Obj} {d:Option Nat} {v:AV} (h:kz d (cE o)=true):
 iV G hp cI cH o (cR t d v) H=iV G hp cI cH o t H:=by
 have hr:∀ s∈cE o,d≠some s:=by
  intro s hs hd;subst hd;simp only [kz,zbe,List.contains_eq_mem] at h;simp [hs] at h
 unfold iV;have hw:want (cR t d v) o.guard=want t o.guard:=by
  cases hg:o.guard with
  | none=>rfl
  | some g=>
   obtain ⟨s,b⟩:=g;have:=hr s (by simp [cE,hg])
   cases d with
   | none=>rfl
   | some d=>
    have hne:d≠s:=fun e=>this (by rw [e])
    simp only [want,cR];rw [nY hne]
 rw [hw]
 cases want t o.guard with
 | none=>rfl
 | some b=>
  cases b with
  | false=>rfl
  | true=>exact gQ G cI hp cH H.length fun r hm=>BI G fun s hs=>hr s (by simp [cE];exact .inr ⟨r,hm,hs⟩)
theorem oM {o:bH} {t:List AV} {H H':List Obj} {v:AV} (hk:o.op.kind= .pure) (h:iV G hp cI cH o t H=some (v,H')):
 H'=H/\∀ K,iV G hp cI cH o t K=some (v,K):=by
 unfold iV at h ⊢;split at h
 ·simp only [evalOp,hk] at h ⊢;split at h
  ·rename_i u hu;simp at h;exact ⟨h.2.symm,fun K=>by simp [h.1]⟩
  ·simp at h
 ·simp at h;exact ⟨h.2.symm,fun K=>by simp [h.1]⟩
 ·simp at h
theorem oN {o:bH} {t:List AV} {H H':List Obj} {v:AV} (hk:o.op.kind= .read) (h:iV G hp cI cH o t H=some (v,H')):H'=H:=by
 unfold iV at h;split at h
 ·simp only [evalOp,hk] at h;split at h
  ·simp at h;exact h.2.symm
  ·simp at h
 ·simp at h;exact h.2.symm
 ·simp at h
theorem abt {a b:bH} {os:List bH} {t:List AV} {H:List Obj} {r} (hf:C4 a b=true)
 (h:bP G hp cI cH (a::b::os) t H=some r):bP G hp cI cH (b::a::os) t H=some r:=by
 simp only [C4,za0,zat,decide_eq_true_eq] at hf;obtain ⟨⟨⟨h1,h2⟩,h3⟩,h4⟩:=hf;rw [de] at h;split at h
 case h_2=>simp at h
 rename_i v H1 ha;rw [de,ym G hp cI cH h1] at h;split at h
 case h_2=>simp at h
 rename_i u H2 hb;have key:∃ Hb,iV G hp cI cH b t H=some (u,Hb)/\iV G hp cI cH a t Hb=some (v,H2):=by
  rcases h4 with (ka | kb) | ⟨ka,kb⟩
  ·obtain ⟨rfl,k⟩:=oM G hp cI cH ka ha;exact ⟨H2,hb,k H2⟩
  ·obtain ⟨rfl,k⟩:=oM G hp cI cH kb hb;exact ⟨H,k H,ha⟩
  ·obtain rfl:=oN G hp cI cH ka ha;obtain rfl:=oN G hp cI cH kb hb;exact ⟨_,hb,ha⟩
 obtain ⟨Hb,k1,k2⟩:=key;rw [de,k1];dsimp only;rw [de,ym G hp cI cH h2,k2];dsimp only;rw [<-tu h3];exact h
theorem Xm {a:bH} {os:List bH} {r}:∀ (pre:List bH) (t:List AV) (H:List Obj),(∀ b∈pre,C4 b a=true)->
 bP G hp cI cH (pre++a::os) t H=some r->bP G hp cI cH (a::(pre++os)) t H=some r:=by
 intro pre;induction pre with
 | nil=>intro t H _ h;exact h
 | cons b pre ih=>
  intro t H hf h;refine abt G hp cI cH (hf b (by simp)) ?_;rw [zaM,de] at h;rw [de]
  cases hb:iV G hp cI cH b t H with
  | none=>rw [hb] at h;simp at h
  | some x=>
   rw [hb] at h;exact ih _ _ (fun c hc=>hf c (by simp [hc])) h
theorem Pw (at_:Nat->bH) {r}:∀ (π L:List Nat) (t:List AV) (H:List Obj),L.Perm π->L.Pairwise (· < ·)->
 π.Pairwise (fun a b=>b < a->C4 (at_ b) (at_ a)=true)->
 bP G hp cI cH (L.map at_) t H=some r->bP G hp cI cH (π.map at_) t H=some r:=by
 intro π;induction π with
 | nil=>intro L t H hp _ _ h;rw [List.Perm.eq_nil hp] at h;exact h
 | cons i π ih=>
  intro L t H hp' hs hπ h;obtain ⟨L1,L2,rfl⟩:=List.append_of_mem (hp'.mem_iff.2 (by simp:i∈i::π));have hp2:(L1++L2).Perm π:=(List.Perm.cons_inv ((List.perm_middle (a:=i)).symm.trans hp'));rw [zal,za5] at h;have hlt:∀ b∈L1,b < i:=by
   intro b hb;exact (zbD.1 hs).2.2 b hb i (by simp)
  have h2:=Xm G hp cI cH (L1.map at_) t H (by
   intro b hb;obtain ⟨j,hj,rfl⟩:=zaT.1 hb;exact (zaJ.1 hπ).1 j (hp2.mem_iff.1 (by simp [hj])) (hlt j hj)) h
  rw [za5,de];rw [de] at h2
  cases ha:iV G hp cI cH (at_ i) t H with
  | none=>rw [ha] at h2;simp at h2
  | some x=>
   rw [ha] at h2;refine ih (L1++L2) _ _ hp2 ?_ (zaJ.1 hπ).2 (by rw [zal];exact h2);refine hs.sublist ?_;simp
theorem Px {ops:Array Oper} {bE:List bH} {π:List Nat} (ho:Ord ops bE.length π)
 (UI:xu (before ops).toList bE=true) {t:List AV} {H:List Obj} {r} (h:bP G hp cI cH bE t H=some r):
 bP G hp cI cH (π.map fun i=>bE.getD i default) t H=some r:=by
 refine Pw G hp cI cH (fun i=>bE.getD i default) π (List.range bE.length) t H ?_ ?_ ?_ (by rw [yh];exact h)
 ·refine (List.perm_ext_iff_of_nodup List.nodup_range ho.nodup).2 fun i=>?_
  rw [ho.mem,zac]
 ·exact List.pairwise_lt_range
 ·refine ho.pair.imp_of_mem fun {a b} ha hb hab hlt=>?_
  have uW:a < bE.length:=(ho.mem a).1 ha;have h1:=zaf.1 (zaf.1 UI a (zac.2 uW)) b (zac.2 hlt);have Bj:b < bE.length:=by omega
  rw [za1 uW,za1 Bj,hab] at h1;simpa [List.getD,za1 uW,za1 Bj] using h1
theorem EZ {ops:Array Oper} {bE:List bH} (hd:rz ops bE=true) (mixed:Bool) (τ:Nat):Ord ops ops.size (schedule mixed ops τ):=by
 simp only [rz,za0] at hd;obtain ⟨⟨⟨h1,h2⟩,h3⟩,_⟩:=hd;exact oK h1 h2 h3 mixed τ
theorem ze {ops:Array Oper} {bE:List bH} (hd:rz ops bE=true):xu (before ops).toList bE=true:=by
 simp only [rz,za0] at hd;exact hd.2
end
end Go.Am
end
