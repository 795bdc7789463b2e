/- Parts of my machine and its laws, joined: AmE2 AmF. No condition. -/
import Derived.Test.YtafgdbaekppjcaaGreatDoorAmD
import Derived.Laws.Sem
import Derived.Laws.Cells
import Derived.Laws.CopyRow
import Derived.Laws.Append
import Derived.Laws.StructEq
set_option linter.unusedSectionVars false
set_option linter.unusedVariables false
set_option linter.unusedSimpArgs false
section
namespace Go.Am
open Region
section
variable (G:Nat->List AV) (cI:CI)
theorem cT {H K:List Obj} {id:Nat} (h:K[id]?=H[id]?):aH K id=aH H id:=by unfold aH;rw [h]
theorem iz {H K:List Obj} {id:Nat} (h:K[id]?=H[id]?):cD K id=cD H id:=by unfold cD;rw [h]
theorem BP {H K:List Obj} {n:Nat} {ag:Bool} {p:AV} (h:∀ id∈refs p,K[id]?=H[id]?):loadAt K n ag p=loadAt H n ag p:=by
 cases p<;>simp only [loadAt,refs,zaZ,forall_eq] at h ⊢;rw [cT h]
theorem FZ {H K:List Obj} {sz:Nat} {x i:AV} (h:∀ id∈refs x,K[id]?=H[id]?):jb K sz x i=jb H sz x i:=by
 cases x<;>cases i<;>simp only [jb,refs,zaZ,forall_eq] at h ⊢;rw [cT h]
theorem Jc {H K:List Obj} {sz:Nat} {x:AV} {lo hi:Option AV} (h:∀ id∈refs x,K[id]?=H[id]?):slc K sz x lo hi=slc H sz x lo hi:=by
 cases x<;>simp only [slc,refs,zaZ,forall_eq] at h ⊢;rw [cT h,iz h]
theorem F0 {H K:List Obj} {len sz:Nat} {x:AV} {lo hi:Option AV} (h:∀ id∈refs x,K[id]?=H[id]?):kU K len sz x lo hi=kU H len sz x lo hi:=by
 cases x<;>simp only [kU,refs,zaZ,forall_eq] at h ⊢;rw [cT h]
theorem uE {H K:List Obj} {x:AV} (h:∀ id∈refs x,K[id]?=H[id]?):isNil K x=isNil H x:=by
 cases x<;>simp only [isNil,refs,zaZ,forall_eq] at h ⊢;rw [cT h,iz h]
theorem Jd {H K:List Obj} {neg:Bool} {x y:AV} (h:∀ id∈refs x++refs y,K[id]?=H[id]?):Ax K neg x y=Ax H neg x y:=by
 have hx:isNil K x=isNil H x:=uE fun id hm=>h id (by simp [hm])
 have hy:isNil K y=isNil H y:=uE fun id hm=>h id (by simp [hm])
 cases y<;>cases x<;>simp only [Ax,hx,hy]
theorem pB {H K:List Obj} {x:AV} (h:∀ id∈refs x,K[id]?=H[id]?):dI K x=dI H x:=by
 cases x<;>simp only [dI,iM,refs,zaZ,forall_eq] at h ⊢;all_goals rw [cT h]
theorem Ed {t:List AV} {H K:List Obj} {pl:Nat} {x:RO} (h:∀ id∈(eF G t pl x).r,K[id]?=H[id]?):aR G t K x=aR G t H x:=by
 cases x<;>simp only [aR,eF] at h ⊢
 ·rw [BP h]
 ·rw [Jd h]
 ·rw [FZ h]
 ·rw [Jc h]
 ·rw [F0 h]
theorem BH {t:List AV} {pl:Nat} {x:RO} (h:x.kind= .pure):eF G t pl x={}:=by
 cases x<;>simp [RO.kind] at h<;>rfl
theorem BI {t:List AV} {pl:Nat} {x:RO} (h:x.kind= .read):(eF G t pl x).w=[]/\(eF G t pl x).all=false:=by
 cases x<;>simp [RO.kind] at h<;>exact ⟨rfl,rfl⟩
theorem BB {t:List AV} {pl:Nat} {x:RO} (h:x.kind= .call):(eF G t pl x).w=[]:=by
 cases x<;>simp [RO.kind] at h<;>rfl
theorem NK {t:List AV} {pl:Nat} {x:RO} (h:x.kind= .write):(eF G t pl x).all=false:=by
 cases x<;>simp [RO.kind] at h<;>rfl
theorem tL (K:List Obj) (d:Nat):∀ xs:List AV,AV.aT 0 xs=true->fC (pk d K) xs=some xs
 | [],_=>rfl
 | x::xs,h=>by
  simp only [AV.aT,za0] at h;have h1:pk d K x=some x:=by cases d<;>simp [pk,AV.fE,h.1]
  simp only [fC,h1,tL K d xs h.2]
theorem Ee {H K:List Obj} {f:Nat} {args:List AV} {v:AV} {H':List Obj} (hf:AV.aT 0 args=true)
 (h:bK fc cI kQ f args H=some (v,H')):bK fc cI kQ f args K=some (v,K):=by
 unfold bK at h ⊢;simp only [fc,za8,if_false,snaps,tL _ _ _ hf] at h ⊢;split at h
 ·split at h
  ·simp only [za1,za4] at h;rename_i h1;simp only [h1,if_true];simp [h.1]
  ·simp at h
 ·simp at h
theorem jY {H:List Obj} {pl:Nat} {o:Obj} (h:pl < H.length) (j:Nat):(putObj H pl o)[j]?=if j=pl then some o else H[j]?:=by
 unfold putObj;rw [if_pos h];by_cases hj:j=pl
 ·subst hj;simp [h]
 ·rw [za7 (fun e=>hj e.symm),if_neg hj]
theorem mC {H:List Obj} {pl:Nat} {x:RO} (h:sB H pl x=true) (ha:x.ef=true):H[pl]?=some .iA:=by
 simp only [sB,ha,zb2,zbQ] at h;split at h
 ·assumption
 ·simp at h
theorem wN {H:List Obj} {pl:Nat} (h:H[pl]?=some .iA):pl < H.length:=by
 rcases zaf pl H.length with e | e
 ·exact e
 ·rw [zan e] at h;simp at h
theorem lT {H K:List Obj} {pl:Nat} {o:Obj} {l:List Nat} (h1:H[pl]?=some .iA) (h2:K[pl]?=some .iA) (hl:pl∈l) (hag:∀ id∈l,K[id]?=H[id]?):
 (∀ id∈l,(putObj K pl o)[id]?=(putObj H pl o)[id]?)/\∀ id,id ∉ l->(putObj K pl o)[id]?=K[id]?:=by
 constructor
 ·intro id hid;rw [jY (wN h1),jY (wN h2),hag id hid]
 ·intro id hid;rw [jY (wN h2),if_neg (by rintro rfl;exact hid hl)]
theorem lU {H K:List Obj} {i:Nat} {o:Obj} {l:List Nat} (hi:i < H.length) (hK:i < K.length) (hl:i∈l) (hag:∀ id∈l,K[id]?=H[id]?):
 (∀ id∈l,(K.set i o)[id]?=(H.set i o)[id]?)/\∀ id,id ∉ l->(K.set i o)[id]?=K[id]?:=by
 constructor
 ·intro id hid;by_cases h:id=i
  ·subst h;simp [hi,hK]
  ·rw [za7 (fun e=>h e.symm),za7 (fun e=>h e.symm),hag id hid]
 ·intro id hid;rw [za7 (by rintro rfl;exact hid hl)]
theorem oz {H:List Obj} {id:Nat} {r} (h:aH H id=some r):id < H.length:=by
 unfold aH at h;split at h
 ·rename_i h1;rcases zaf id H.length with e | e
  ·exact e
  ·rw [zan e] at h1;simp at h1
 ·simp at h
theorem oa {H K:List Obj} {id:Nat} (h:K[id]?=H[id]?):jC K id=jC H id:=by unfold jC;rw [h]
theorem pC {H K:List Obj} {x:AV} (h:∀ id∈refs x,K[id]?=H[id]?):entries K x=entries H x:=by
 cases x<;>simp only [entries,refs,zaZ,forall_eq] at h ⊢;rw [oa h]
theorem Sn {H:List Obj} {id:Nat} {r} (h:jC H id=some r):id < H.length:=by
 unfold jC at h;split at h
 ·rename_i h1;rcases zaf id H.length with e | e
  ·exact e
  ·rw [zan e] at h1;simp at h1
 ·simp at h
theorem F1 {H K H':List Obj} {k:CK} {m x v:AV} (h:iU H k m x v=some H') (hag:∀ id∈refs m,K[id]?=H[id]?):
 ∃ K',iU K k m x v=some K'/\(∀ id∈refs m,K'[id]?=H'[id]?)/\∀ id,id ∉ refs m->K'[id]?=K[id]?:=by
 cases m<;>simp only [iU] at h<;>try (simp at h;done)
 rename_i id;simp only [refs,zaZ,forall_eq] at hag ⊢;simp only [iU,oa hag];split at h
 case h_2=>simp at h
 rename_i es hl;have Em:jC K id=some es:=by rw [oa hag];exact hl
 have fr:=fun o=>lU (l:=[id]) (o:=o) (Sn hl) (Sn Em) (by simp) (by simpa using hag)
 split at h
 ·injection h with h;subst h
  rename_i hf;exact ⟨_,rfl,(fr _).1 id (by simp),fun j hj=>(fr _).2 j (by simpa using hj)⟩
 ·rename_i hf;split at h
  case isFalse=>simp at h
  rename_i he;injection h with h;subst h
  rw [if_pos he];exact ⟨_,rfl,(fr _).1 id (by simp),fun j hj=>(fr _).2 j (by simpa using hj)⟩
 ·simp at h
theorem Je {H K H':List Obj} {x v:AV} (h:uH H x=some (v,H')) (hag:∀ id∈refs x,K[id]?=H[id]?):
 ∃ K',uH K x=some (v,K')/\(∀ id∈refs x,K'[id]?=H'[id]?)/\∀ id,id ∉ refs x->K'[id]?=K[id]?:=by
 cases x<;>simp only [uH] at h<;>try (simp at h;done)
 rename_i id;simp only [refs,zaZ,forall_eq] at hag ⊢;simp only [uH,hag];split at h
 case h_2=>simp at h
 rename_i s pos hl;have lt:∀ L:List Obj,L[id]?=some (Obj.it s pos)->id < L.length:=fun L e=>by
  rcases zaf id L.length with q | q
  ·exact q
  ·rw [zan q] at e;simp at e
 have fr:=fun o=>lU (l:=[id]) (o:=o) (lt H hl) (lt K (by rw [hag];exact hl)) (by simp) (by simpa using hag)
 split at h
 ·rename_i hp;rw [if_pos hp];simp only [za1,za4] at h;obtain ⟨rfl,rfl⟩:=h;exact ⟨_,rfl,(fr _).1 id (by simp),fun j hj=>(fr _).2 j (by simpa using hj)⟩
 ·rename_i hp;rw [if_neg hp];simp only [za1,za4] at h;obtain ⟨rfl,rfl⟩:=h;exact ⟨K,rfl,hag,fun _ _=>rfl⟩
theorem yZ {H K H':List Obj} {n:Nat} {a x:AV} (h:storeAt H n a x=some H') (hag:∀ id∈refs a,K[id]?=H[id]?):
 ∃ K',storeAt K n a x=some K'/\(∀ id∈refs a,K'[id]?=H'[id]?)/\∀ id,id ∉ refs a->K'[id]?=K[id]?:=by
 cases a<;>simp only [storeAt] at h<;>try (simp at h;done)
 rename_i id ext e o;simp only [refs,zaZ,forall_eq] at hag ⊢;split at h
 case h_2=>simp at h
 rename_i sz es hl;split at h
 case isFalse=>simp at h
 rename_i hc;split at h
 case h_2=>simp at h
 rename_i cs hcs;injection h with h;subst h
 have SM:aH K id=some (sz,es):=by rw [cT hag];exact hl
 obtain ⟨f1,f2⟩:=lU (l:=[id]) (o:= .live (cD H id) sz (es.set e (putAt cs o x.cells))) (oz hl) (oz SM) (by simp) (by simpa using hag);refine ⟨K.set id (.live (cD H id) sz (es.set e (putAt cs o x.cells))),?_,f1 id (by simp),fun j hj=>f2 j (by simpa using hj)⟩;simp only [storeAt,SM,iz hag];rw [if_pos hc,hcs]
theorem BQ {H K H':List Obj} {pl sz bytes:Nat} {s x v:AV} (h:append H pl sz bytes s x=some (v,H')) (dm:H[pl]?=some .iA)
 (hag:∀ id,id∈refs x\/id∈pl::refs s->K[id]?=H[id]?):
 ∃ K',append K pl sz bytes s x=some (v,K')/\(∀ id∈pl::refs s,K'[id]?=H'[id]?)/\∀ id,id ∉ pl::refs s->K'[id]?=K[id]?:=by
 have hx:dI K x=dI H x:=pB fun id hm=>hag id (.inl hm)
 have Yg:K[pl]?=some .iA:=by rw [hag pl (.inr (by simp))];exact dm
 unfold append at h;split at h
 ·simp at h
 rename_i new hn;have hxk:dI K x=some new:=by rw [hx];exact hn
 split at h
 case isFalse=>simp at h
 rename_i hall;split at h
 ·split at h
  ·rename_i hnew;simp only [za1,za4] at h;obtain ⟨rfl,rfl⟩:=h;exact ⟨K,by simp [append,hxk,hnew],fun id hid=>hag id (.inr hid),fun _ _=>rfl⟩
  ·rename_i hnew;split at h
   case isFalse=>simp at h
   rename_i hb;simp only [za1,za4] at h;obtain ⟨rfl,rfl⟩:=h;obtain ⟨f1,f2⟩:=lT (o:= .live .norm sz new) (l:=pl::refs .bD) dm Yg (by simp) (fun id hid=>hag id (.inr hid));exact ⟨_,by simp only [append,hxk];rw [if_pos hall,if_neg hnew,if_pos hb],f1,f2⟩
 ·rename_i id ext off len;split at h
  case h_2=>simp at h
  rename_i sz' es hl;split at h
  case isFalse=>simp at h
  rename_i hc;have hid:K[id]?=H[id]?:=hag id (.inr (by simp [refs]));have SM:aH K id=some (sz',es):=by rw [cT hid];exact hl
  split at h
  ·rename_i hg;simp only [za1,za4] at h;obtain ⟨rfl,rfl⟩:=h;obtain ⟨f1,f2⟩:=lU (l:=pl::refs (.own id ext off len)) (o:= .live (cD H id) sz (es++new)) (oz hl) (oz SM) (by simp [refs]) (fun j hj=>hag j (.inr hj));refine ⟨K.set id (.live (cD H id) sz (es++new)),?_,f1,f2⟩;simp only [append,hxk,SM,iz hid];rw [if_pos hall,if_pos hc,if_pos hg]
  ·rename_i hg;split at h
   case h_2=>simp at h
   rename_i fl hfl;split at h
   case isFalse=>simp at h
   rename_i hq;simp only [za1,za4] at h;obtain ⟨rfl,rfl⟩:=h;obtain ⟨f1,f2⟩:=lU (l:=pl::refs (.own id ext off len)) (o:= .live fl sz es) (oz hl) (oz SM) (by simp [refs]) (fun j hj=>hag j (.inr hj));have hne:id≠pl:=by omega
   have O3:(H.set id (.live fl sz es))[pl]?=some .iA:=by rw [za7 hne];exact dm
   have ZU:(K.set id (.live fl sz es))[pl]?=some .iA:=by rw [za7 hne];exact Yg
   obtain ⟨g1,g2⟩:=lT (o:= .live .ch sz (es++new)) (l:=pl::refs (.own id ext off len)) O3 ZU (by simp) f1;refine ⟨_,?_,g1,fun j hj=>by rw [g2 j hj,f2 j hj]⟩;simp only [append,hxk,SM,iz hid];rw [if_pos hall,if_pos hc,if_neg hg,hfl];dsimp only;rw [if_pos hq]
 ·simp at h
theorem Ao {f g:AV->Option AV} (hfg:∀ x,x.bp 0=true->f x=g x):∀ L:List AV,AV.aT 0 L=true->fC f L=fC g L
 | [],_=>rfl
 | x::xs,h=>by
  simp only [AV.aT,za0] at h;simp only [fC,hfg x h.1,Ao hfg xs h.2]
theorem yx {f g:AV->Option AV} (hfg:∀ x,x.bp 0=true->f x=g x):∀ L:List (List AV),AV.bN 0 L=true->gE f L=gE g L
 | [],_=>rfl
 | x::xs,h=>by
  simp only [AV.bN,za0] at h;simp only [gE,Ao hfg x h.1,yx hfg xs h.2]
theorem Re (H K:List Obj) (d:Nat) (x:AV) (h:x.bp 0=true):pk d K x=pk d H x:=by
 cases d<;>simp [pk,AV.fE,h]
theorem Ef {H K:List Obj} {x:AV} (h:∀ id∈refs x,K[id]?=H[id]?):lz K x=lz H x:=by
 unfold lz;split
 ·rfl
 ·rename_i hb
  cases x<;>try rfl
  rename_i id ext off len;have h1:=h id (by simp [refs]);simp only [h1];split
  ·rename_i fl sz es hH;split
   ·rename_i Er;rw [hH] at h1;have key:∀ d,pk (d+1) K (.own id ext off len)=pk (d+1) H (.own id ext off len):=fun d=>by
     simp only [pk,AV.fE,hb,aH,cD,h1,hH,za8,if_false];rw [yx (fun x hx=>Re H K d x hx) _ Er]
    exact key 5
   ·rfl
  ·rfl
theorem kJ {H K:List Obj}:∀ {xs:List AV},(∀ id∈xs.flatMap refs,K[id]?=H[id]?)->ku K xs=ku H xs
 | [],_=>rfl
 | x::xs,h=>by
  simp only [ku];rw [Ef (x:=x) fun id hid=>h id (by simp [hid]),kJ (xs:=xs) fun id hid=>h id (by simp only [zbR,zbM];exact .inr hid)]
theorem kI {H:List Obj}:∀ {xs ys:List AV},ku H xs=some ys->snaps H xs=some ys
 | [],ys,h=>by simpa [ku,snaps,fC] using h
 | x::xs,ys,h=>by
  simp only [ku] at h;split at h
  case h_2=>simp at h
  rename_i y r h1 h2;simp only [za1] at h;subst h;have h3:=kI h2;have h4:pk 6 H x=some y:=by
   unfold lz at h1;split at h1
   ·rename_i hb;injection h1 with h1;subst h1
    simp [pk,AV.fE,hb]
   ·split at h1
    ·split at h1
     ·split at h1
      ·exact h1
      ·simp at h1
     ·simp at h1
    ·simp at h1
  unfold snaps at h3 ⊢;simp only [fC,h4,h3]
theorem Eg {H K:List Obj} {f:Nat} {args:List AV} {v:AV} {H':List Obj} (hok:mu H args=true) (hag:∀ id∈args.flatMap refs,K[id]?=H[id]?)
 (h:bK fc cI kQ f args H=some (v,H')):bK fc cI kQ f args K=some (v,K)/\H'=H:=by
 unfold mu at hok
 cases hl:ku H args with
 | none=>rw [hl] at hok;simp at hok
 | some ys=>
  have h1:=kI hl;have h2:snaps K args=some ys:=kI (by rw [kJ hag];exact hl);unfold bK at h ⊢;simp only [fc,za8,if_false,h1,h2] at h ⊢;split at h
  case h_2=>simp at h
  split at h
  case isFalse=>simp at h
  rename_i hc;simp only [za1,za4] at h;obtain ⟨rfl,rfl⟩:=h;exact ⟨by rw [if_pos hc],rfl⟩
theorem mL {x:RO} {t:List AV} {H H' K:List Obj} {pl:Nat} {v:AV} (hnc:∀ f args,x≠ .call f args) (h:evalOp G fc cI kQ pl x t H=some (v,H')) (dm:sB H pl x=true)
 (hall:(eF G t pl x).all=true->K=H) (hag:∀ id,id∈(eF G t pl x).r\/id∈(eF G t pl x).w->K[id]?=H[id]?):
 ∃ K',evalOp G fc cI kQ pl x t K=some (v,K')/\(∀ id∈(eF G t pl x).w,K'[id]?=H'[id]?)/\∀ id,id ∉ (eF G t pl x).w->K'[id]?=K[id]?:=by
 cases hk:x.kind with
 | pure=>
  unfold evalOp at h ⊢;rw [hk] at h ⊢;dsimp only at h ⊢;split at h
  case h_2=>simp at h
  rename_i u hu;simp only [za1,za4] at h;obtain ⟨rfl,rfl⟩:=h;rw [BH G hk];exact ⟨K,by simp [hu],fun id hid=>by simp at hid,fun _ _=>rfl⟩
 | read=>
  unfold evalOp at h ⊢;rw [hk] at h ⊢;dsimp only at h ⊢;split at h
  case h_2=>simp at h
  rename_i u hu;simp only [za1,za4] at h;obtain ⟨rfl,rfl⟩:=h;have hKR:=Ed G (t:=t) (pl:=pl) (x:=x) (H:=H) (K:=K) fun id hid=>hag id (.inl hid)
  rw [(BI G hk).1];exact ⟨K,by rw [hKR,hu],fun id hid=>by simp at hid,fun _ _=>rfl⟩
 | call=>
  rw [BB G hk];refine ⟨K,?_,fun id hid=>by simp at hid,fun _ _=>rfl⟩;by_cases ha:(eF G t pl x).all=true
  ·rw [hall ha];have:=zM G cI (by rw [hk];simp) h;rw [h,this]
  ·have N7:∀ f args,AV.aT 0 args=true->bK fc cI kQ f args H=some (v,H')->bK fc cI kQ f args K=some (v,K):=fun f args hf hd=>Ee cI hf hd
   unfold evalOp at h ⊢;rw [hk] at h ⊢;dsimp only at h ⊢
   cases x with
   | call f args=>exact (hnc _ _ rfl).elim
   | gr fx args=>
    simp only [eF] at ha h ⊢;split at h
    case h_3=>simp [kQ] at h
    case h_4=>simp at h
    case h_2=>
     rename_i f cap JB;rw [JB] at ha;simp only [Bool.not_eq_true,Bool.not_eq_false',za0,AV.bp] at ha;refine N7 _ _ ?_ h;have app:∀ (a b:List AV),AV.aT 0 a=true->AV.aT 0 b=true->AV.aT 0 (a++b)=true:=by
      intro a b ha hb;induction a with
      | nil=>exact hb
      | cons y a ih=>simp only [AV.aT,za0,zaH] at ha ⊢;exact ⟨ha.1,ih ha.2⟩
     exact app _ _ ha.1 ha.2
    rename_i f cap JB;rw [JB] at ha;simp only [Bool.not_eq_true,Bool.not_eq_false',za0,AV.bp] at ha;refine N7 _ _ ?_ h;have app:∀ (a b:List AV),AV.aT 0 a=true->AV.aT 0 b=true->AV.aT 0 (a++b)=true:=by
     intro a b ha hb;induction a with
     | nil=>exact hb
     | cons y a ih=>simp only [AV.aT,za0,zaH] at ha ⊢;exact ⟨ha.1,ih ha.2⟩
    exact app _ _ ha.2 ha.1
   | _=>simp [RO.kind] at hk
 | write=>
  unfold evalOp at h ⊢;rw [hk] at h ⊢;dsimp only at h ⊢;have alloc:∀ (o:Obj),x.ef=true->(eF G t pl x).w=[pl]->
   (∀ id∈(eF G t pl x).w,(putObj K pl o)[id]?=(putObj H pl o)[id]?)/\∀ id,id ∉ (eF G t pl x).w->(putObj K pl o)[id]?=K[id]?:=by
   intro o ha hw;have h1:=mC dm ha;refine lT h1 ?_ (by rw [hw];simp) fun id hid=>hag id (.inr hid)
   rw [hag pl (.inr (by rw [hw];simp))];exact h1
  cases x with
  | box y=>
   simp only [evalW] at h ⊢;split at h
   case isFalse=>simp at h
   simp only [za1,za4] at h;obtain ⟨rfl,rfl⟩:=h;exact ⟨_,by rw [if_pos (by assumption)],alloc _ rfl rfl⟩
  | alloc z=>
   simp only [evalW] at h ⊢;split at h
   case isFalse=>simp at h
   simp only [za1,za4] at h;obtain ⟨rfl,rfl⟩:=h;exact ⟨_,by rw [if_pos (by assumption)],alloc _ rfl rfl⟩
  | u5 sz z len parts=>
   simp only [evalW] at h ⊢;split at h
   case isFalse=>simp at h
   rename_i hc;rw [if_pos hc];split at h
   case h_2=>simp at h
   rename_i es sk;simp only [za1,za4] at h;obtain ⟨rfl,rfl⟩:=h;exact ⟨_,rfl,alloc _ rfl rfl⟩
  | F9 sz z bytes l cp=>
   simp only [evalW] at h ⊢;split at h
   case h_2=>simp at h
   split at h
   case isFalse=>simp at h
   rename_i hc;rw [if_pos hc];simp only [za1,za4] at h;obtain ⟨rfl,rfl⟩:=h;exact ⟨_,rfl,alloc _ rfl rfl⟩
  | AH z len parts=>
   simp only [evalW] at h ⊢;split at h
   case isFalse=>simp at h
   rename_i hc;rw [if_pos hc];split at h
   case h_2=>simp at h
   rename_i es sk;split at h
   case isFalse=>simp at h
   rename_i hb;rw [if_pos hb];simp only [za1,za4] at h;obtain ⟨rfl,rfl⟩:=h;exact ⟨K,rfl,fun id hid=>hag id (.inr hid),fun _ _=>rfl⟩
  | sx sz z bytes l cp=>
   simp only [evalW] at h ⊢;split at h
   case h_2=>simp at h
   split at h
   case isFalse=>simp at h
   rename_i hc;rw [if_pos hc];simp only [za1,za4] at h;obtain ⟨rfl,rfl⟩:=h;exact ⟨_,rfl,alloc _ rfl rfl⟩
  | store n a y=>
   simp only [evalW] at h ⊢;split at h
   case h_2=>simp at h
   rename_i H2 hs;simp only [za1,za4] at h;obtain ⟨rfl,rfl⟩:=h;obtain ⟨K',k1,k2,k3⟩:=yZ hs fun id hid=>hag id (.inr hid)
   exact ⟨K',by rw [k1],k2,k3⟩
  | app sz bytes s y=>
   simp only [evalW] at h ⊢;exact BQ h (mC dm rfl) fun id hid=>hag id hid
  | bad=>simp [evalW] at h
  | sj f args=>simp [evalW] at h
  | md sz bytes s y=>simp [evalW] at h
  | mY sz z len parts=>simp [evalW] at h
  | HW=>
   simp only [evalW,za1,za4] at h ⊢;obtain ⟨rfl,rfl⟩:=h;exact ⟨_,⟨rfl,rfl⟩,alloc _ rfl rfl⟩
  | Ek y=>
   simp only [evalW] at h ⊢;split at h
   case h_2=>simp at h
   simp only [za1,za4] at h;obtain ⟨rfl,rfl⟩:=h;exact ⟨_,rfl,alloc _ rfl rfl⟩
  | iU k m x v=>
   simp only [evalW] at h ⊢;split at h
   case h_2=>simp at h
   rename_i H2 hs;simp only [za1,za4] at h;obtain ⟨rfl,rfl⟩:=h;obtain ⟨K',k1,k2,k3⟩:=F1 hs fun id hid=>hag id (.inr hid)
   exact ⟨K',by rw [k1],k2,k3⟩
  | uH y=>
   simp only [evalW] at h ⊢;exact Je h fun id hid=>hag id (.inr hid)
  | iV k z ok m x=>
   simp only [evalW] at h ⊢;have e:∀ L:List Obj,entries L (m.ev G t)=entries H (m.ev G t)->Am.iV L k z ok (m.ev G t) (x.ev G t)=Am.iV H k z ok (m.ev G t) (x.ev G t):=fun L e=>by unfold Am.iV;rw [e]
   rw [e K (pC fun id hid=>hag id (.inl hid))];split at h
   case h_2=>simp at h
   rename_i hs;simp only [za1,za4] at h;obtain ⟨rfl,rfl⟩:=h;exact ⟨K,rfl,fun id hid=>hag id (.inr hid),fun _ _=>rfl⟩
  | jx m=>
   simp only [evalW] at h ⊢;have e:∀ L:List Obj,entries L (m.ev G t)=entries H (m.ev G t)->Am.jx L (m.ev G t)=Am.jx H (m.ev G t):=fun L e=>by unfold Am.jx;rw [e]
   rw [e K (pC fun id hid=>hag id (.inl hid))];split at h
   case h_2=>simp at h
   rename_i hs;simp only [za1,za4] at h;obtain ⟨rfl,rfl⟩:=h;exact ⟨K,rfl,fun id hid=>hag id (.inr hid),fun _ _=>rfl⟩
  | BS m=>
   simp only [evalW] at h ⊢;have e:∀ L:List Obj,dI L (m.ev G t)=dI H (m.ev G t)->Am.BS L (m.ev G t)=Am.BS H (m.ev G t):=fun L e=>by unfold Am.BS;rw [e]
   rw [e K (pB fun id hid=>hag id (.inl hid))];split at h
   case h_2=>simp at h
   rename_i hs;simp only [za1,za4] at h;obtain ⟨rfl,rfl⟩:=h;exact ⟨K,rfl,fun id hid=>hag id (.inr hid),fun _ _=>rfl⟩
  | _=>simp [RO.kind] at hk
theorem r8 {w:List Nat} {v1 r:AV} {H1 H2 K1 K:List Obj} (h:eU w (some (v1,H1))=some (r,H2)) (k2:∀ id∈w,K1[id]?=H1[id]?) (k3:∀ id,id ∉ w->K1[id]?=K[id]?):
 ∃ K2,eU w (some (v1,K1))=some (r,K2)/\(∀ id∈w,K2[id]?=H2[id]?)/\∀ id,id ∉ w->K2[id]?=K[id]?:=by
 unfold eU at h ⊢;dsimp only at h ⊢;split at h
 case isFalse=>simp at h
 rename_i hin;rw [if_pos hin];have hw:∀ id∈refs v1,id∈w:=fun id hid=>by
  have:=zai.1 hin id hid;simpa using this
 split at h
 case h_2=>simp at h
 rename_i r0 H20 hf;simp only [za1,za4] at h;obtain ⟨rfl,rfl⟩:=h;simp only [ke,List.getD_cons_zero] at hf ⊢;split at hf
 ·rename_i id ext off len;have hid:=hw id (by simp [refs]);have hg:=k2 id hid;rw [cT hg,iz hg];split at hf
  case h_2=>simp at hf
  rename_i En es hl;try rw [hl]
  try dsimp only
  split at hf
  case isFalse=>simp at hf
  rename_i hc;try rw [if_pos hc]
  simp only [za1,St.mk.injEq,zb8,zaE,and_true] at hf;obtain ⟨rfl,rfl⟩:=hf;have hlt:id < H1.length:=by
   rcases zaf id H1.length with e | e
   ·exact e
   ·simp [aH,zan e] at hl
  have aeH:id < K1.length:=by
   rcases zaf id K1.length with e | e
   ·exact e
   ·rw [zan e] at hg;rw [za2 hlt] at hg;simp at hg
  refine ⟨_,rfl,fun i hi=>?_,fun i hi=>?_⟩
  ·by_cases e:id=i
   ·subst e;simp [hlt,aeH]
   ·rw [za7 e,za7 e];exact k2 i hi
  ·have e:id≠i:=by rintro rfl;exact hi hid
   rw [za7 e];exact k3 i hi
 ·simp only [za1,St.mk.injEq,zaE,and_true] at hf;obtain ⟨rfl,rfl⟩:=hf;refine ⟨K1,?_,k2,k3⟩
  cases v1<;>first | rfl | (rename_i hne;exact (hne _ _ _ _ rfl).elim)
theorem Eh {x:RO} {t:List AV} {H H' K:List Obj} {pl:Nat} {v:AV} (h:fJ G cI pl x t H=some (v,H')) (dm:sB H pl x=true)
 (hall:(eF G t pl x).all=true->K=H) (hag:∀ id,id∈(eF G t pl x).r\/id∈(eF G t pl x).w->K[id]?=H[id]?):
 ∃ K',fJ G cI pl x t K=some (v,K')/\(∀ id∈(eF G t pl x).w,K'[id]?=H'[id]?)/\∀ id,id ∉ (eF G t pl x).w->K'[id]?=K[id]?:=by
 by_cases hm:∃ f args,x= .sj f args
 ·obtain ⟨f,args,rfl⟩:=hm;simp only [fJ,mkObj] at h ⊢;rw [kJ (K:=K) (H:=H) fun id hid=>hag id (.inl (by simpa [eF] using hid))];split at h
  case h_2=>simp at h
  rename_i ys hys;split at h
  case h_2=>simp at h
  rename_i sz x hc;try rw [hc]
  split at h
  case isFalse=>simp at h
  rename_i hb;try rw [if_pos hb]
  have h1:=mC dm rfl;have h2:K[pl]?=some .iA:=by rw [hag pl (.inr (by simp [eF]))];exact h1
  unfold wh at h ⊢;split at h
  ·simp only [za1,za4] at h;obtain ⟨rfl,rfl⟩:=h;exact ⟨_,rfl,lT h1 h2 (by simp [eF]) fun id hid=>hag id (.inr hid)⟩
  ·simp only [za1,za4] at h;obtain ⟨rfl,rfl⟩:=h;exact ⟨K,rfl,fun id hid=>hag id (.inr hid),fun _ _=>rfl⟩
  ·simp only [za1,za4] at h;obtain ⟨rfl,rfl⟩:=h;exact ⟨_,rfl,lT h1 h2 (by simp [eF]) fun id hid=>hag id (.inr hid)⟩
  ·simp at h
 by_cases ha:∃ sz b y z,x= .md sz b y z
 ·obtain ⟨sz,b,y,z,rfl⟩:=ha;simp only [fJ] at h ⊢
  cases oY:evalW G t H pl (.app sz b y z) with
  | none=>rw [oY] at h;simp [eU] at h
  | some q=>
   obtain ⟨v1,H1⟩:=q;rw [oY] at h;obtain ⟨K1,k1,k2,k3⟩:=mL G cI (x:= .app sz b y z) (fun f args e=>by simp at e) oY dm (fun e=>by simp [eF] at e) hag;have k1':evalW G t K pl (.app sz b y z)=some (v1,K1):=k1;rw [k1'];exact r8 h k2 k3
 by_cases hb:∃ sz z len parts,x= .mY sz z len parts
 ·obtain ⟨sz,z,len,parts,rfl⟩:=hb;simp only [fJ] at h ⊢
  cases oY:evalW G t H pl (.u5 sz z len parts) with
  | none=>rw [oY] at h;simp [eU] at h
  | some q=>
   obtain ⟨v1,H1⟩:=q;rw [oY] at h;obtain ⟨K1,k1,k2,k3⟩:=mL G cI (x:= .u5 sz z len parts) (fun f args e=>by simp at e) oY dm (fun e=>by simp [eF] at e) hag;have k1':evalW G t K pl (.u5 sz z len parts)=some (v1,K1):=k1;rw [k1'];exact r8 h k2 k3
 by_cases hc:∃ f args,x= .call f args
 ·obtain ⟨f,args,rfl⟩:=hc;simp only [fJ] at h ⊢;split at h
  case isFalse=>simp at h
  rename_i hok;have Yh:∀ id∈(args.map (·.ev G t)).flatMap refs,K[id]?=H[id]?:=fun id hid=>hag id (.inl (by simpa [eF] using hid))
  have aeI:mu K (args.map (·.ev G t))=true:=by unfold mu at hok ⊢;rw [kJ Yh];exact hok
  rw [if_pos aeI];have h':bK fc cI kQ f (args.map (·.ev G t)) H=some (v,H'):=h;obtain ⟨k1,rfl⟩:=Eg cI hok Yh h';exact ⟨K,k1,fun id hid=>by simp [eF] at hid,fun _ _=>rfl⟩
 ·have e:∀ L,fJ G cI pl x t L=evalOp G fc cI kQ pl x t L:=fun L=>by
   cases x<;>first | rfl | exact (hm ⟨_,_,rfl⟩).elim | exact (hc ⟨_,_,rfl⟩).elim | exact (ha ⟨_,_,_,_,rfl⟩).elim | exact (hb ⟨_,_,_,_,rfl⟩).elim
  rw [e] at h;obtain ⟨K',k1,k2⟩:=mL G cI (fun f args e=>hc ⟨f,args,e⟩) h dm hall hag;exact ⟨K',by rw [e];exact k1,k2⟩
theorem Ei {t t':List AV} {H:List Obj} {x:RO} (pl:Nat) (h:∀ r∈x.ops,r.ev G t=r.ev G t'):fJ G cI pl x t H=fJ G cI pl x t' H:=by
 by_cases hm:∃ f args,x= .sj f args
 ·obtain ⟨f,args,rfl⟩:=hm;simp only [fJ];rw [dF (l:=args) (f:=fun r=>r.ev G t) (g:=fun r=>r.ev G t') h]
 by_cases ha:∃ sz b y z,x= .md sz b y z
 ·obtain ⟨sz,b,y,z,rfl⟩:=ha;have hy:=h y (by simp [RO.ops]);have hz:=h z (by simp [RO.ops]);simp only [fJ,evalW,hy,hz]
 by_cases hb:∃ sz z len parts,x= .mY sz z len parts
 ·obtain ⟨sz,z,len,parts,rfl⟩:=hb;simp only [fJ];rw [um G (x:= .u5 sz z len parts) (t:=t) (t':=t') fun r hr=>h r hr]
 by_cases hc:∃ f args,x= .call f args
 ·obtain ⟨f,args,rfl⟩:=hc;have:=gU (H:=H) G cI fc kQ pl h;simp only [fJ];rw [dF (l:=args) (f:=fun r=>r.ev G t) (g:=fun r=>r.ev G t') h];split
  ·exact this
  ·rfl
 ·have e:∀ s,fJ G cI pl x s H=evalOp G fc cI kQ pl x s H:=fun s=>by
   cases x<;>first | rfl | exact (hm ⟨_,_,rfl⟩).elim | exact (hc ⟨_,_,rfl⟩).elim | exact (ha ⟨_,_,_,_,rfl⟩).elim | exact (hb ⟨_,_,_,_,rfl⟩).elim
  rw [e,e];exact gU G cI fc kQ pl h
theorem F2 {H K:List Obj} {pl:Nat} {x:RO} {t:List AV} (hag:∀ id,id∈(eF G t pl x).r\/id∈(eF G t pl x).w->K[id]?=H[id]?) (h:sB H pl x=true):sB K pl x=true:=by
 cases ha:x.ef with
 | false=>simp [sB,ha]
 | true=>
  have h1:=mC h ha;have h2:pl∈(eF G t pl x).w:=by cases x<;>simp [RO.ef] at ha<;>simp [eF]
  simp only [sB,ha,zb2,zbQ,hag pl (.inr h2),h1]
theorem qq {o:bH} {t:List AV} {H H' K:List Obj} {pl:Nat} {v:AV} {f:FP} (h:qF G cI pl o t H=some (v,H',f))
 (hall:f.all=true->K=H) (hag:∀ id,id∈f.r\/id∈f.w->K[id]?=H[id]?):
 ∃ K',qF G cI pl o t K=some (v,K',f)/\(∀ id∈f.w,K'[id]?=H'[id]?)/\∀ id,id ∉ f.w->K'[id]?=K[id]?:=by
 unfold qF at h ⊢;split at h
 ·split at h
  case isFalse=>simp at h
  rename_i dm;split at h
  case h_2=>simp at h
  rename_i u H2 he;simp only [za1,za4] at h;obtain ⟨rfl,rfl,rfl⟩:=h;obtain ⟨K',k1,k2,k3⟩:=Eh G cI he dm hall hag;refine ⟨K',?_,k2,k3⟩;rw [if_pos (F2 G hag dm)];rw [k1]
 ·simp only [za1,za4] at h;obtain ⟨rfl,rfl,rfl⟩:=h;exact ⟨K,rfl,fun id hid=>by simp at hid,fun _ _=>rfl⟩
 ·simp at h
theorem Ap {o:bH} {t:List AV} {H H':List Obj} {pl:Nat} {v:AV} {f:FP} (h:qF G cI pl o t H=some (v,H',f)):
 ∀ id,id ∉ f.w->H'[id]?=H[id]?:=by
 obtain ⟨K',k1,_,k3⟩:=qq G cI h (K:=H) (fun _=>rfl) (fun _ _=>rfl);rw [h] at k1;simp only [za1,za4] at k1;obtain ⟨_,rfl,_⟩:=k1;exact k3
theorem yy {o:bH} {t:List AV} {H:List Obj} {pl:Nat} {d:Option Nat} {v:AV} (h:ko d (cM o)=true):
 qF G cI pl o (cY t d v) H=qF G cI pl o t H:=by
 have hr:∀ s∈cM o,d≠some s:=by
  intro s hs hd;subst hd;simp only [ko,zaW,List.contains_eq_mem] at h;simp [hs] at h
 unfold qF;have hw:want (cY t d v) o.guard=want t o.guard:=by
  cases hg:o.guard with
  | none=>rfl
  | some g=>
   obtain ⟨s,b⟩:=g;have:=hr s (by simp [cM,hg])
   cases d with
   | none=>rfl
   | some d=>
    have hne:d≠s:=fun e=>this (by rw [e])
    simp only [want,cY];rw [nX hne]
 rw [hw];have eA:∀ r∈o.op.ops,r.ev G (cY t d v)=r.ev G t:=fun r hm=>Bj G fun s hs=>hr s (by simp [cM];exact .inr ⟨r,hm,hs⟩)
 cases want t o.guard with
 | none=>rfl
 | some b=>
  cases b with
  | false=>rfl
  | true=>
   have h1:fJ G cI pl o.op (cY t d v) H=fJ G cI pl o.op t H:=Ei G cI pl eA;have h2:eF G (cY t d v) pl o.op=eF G t pl o.op:=by
    revert eA
    cases o.op<;>intro eA<;>simp only [eF,RO.ops,zam,zbD,or_false,forall_eq_or_imp,forall_eq,zbM] at eA ⊢<;>(try rw [eA])<;>(try rw [eA.1])<;>(try rw [eA.2])<;>(try rw [eA.1])
    ·rw [dF eA]
    ·rw [dF eA.2]
    ·rw [dF eA]
   dsimp only;rw [h1,h2]
theorem yz {a b:List Nat}:pX a b=true↔∀ x∈a,x ∉ b:=by
 simp [pX,zai]
theorem ZV {b0 ka kb:Nat} {a b:bH} {os:List (Nat×bH)} {t t':List AV} {H H':List Obj} {fs:List FP} {fa fb:FP} (hs:c8 a b=true) (hd:eX fa fb=true)
 (h:gD G cI b0 ((ka,a)::(kb,b)::os) t H=some (t',H',fa::fb::fs)):
 gD G cI b0 ((kb,b)::(ka,a)::os) t H=some (t',H',fb::fa::fs):=by
 simp only [c8,za0] at hs;obtain ⟨⟨h1,h2⟩,h3⟩:=hs;simp only [eX,za0,yz] at hd;obtain ⟨⟨⟨⟨d1,d2⟩,d3⟩,d4⟩,d5⟩:=hd;rw [gD] at h;split at h
 case h_2=>simp at h
 rename_i v H1 f1 ha;split at h
 case h_2=>simp at h
 rename_i t1 H2 fs1 hr;simp only [za1,za4,zaE] at h;obtain ⟨rfl,rfl,rfl,rfl⟩:=h;rw [gD,yy G cI h1] at hr;split at hr
 case h_2=>simp at hr
 rename_i u H3 f2 hb;split at hr
 case h_2=>simp at hr
 rename_i t2 H4 fs2 Ju;simp only [za1,za4,zaE] at hr;obtain ⟨rfl,rfl,rfl,rfl⟩:=hr;have ka1:=Ap G cI ha;have kb1:=Ap G cI hb;obtain ⟨Hb,q1,q2,q3⟩:=qq G cI hb (K:=H) (fun hal=>by
  have hw:f1.w=[]:=by simpa [hal] using d5
  apply List.ext_getElem?;intro j;exact (ka1 j (by rw [hw];simp)).symm) (fun id hid=>by
  refine (ka1 id ?_).symm;rcases hid with hid | hid
  ·exact fun hm=>d1 id hm hid
  ·exact fun hm=>d2 id hm hid)
 obtain ⟨Hba,p1,p2,p3⟩:=qq G cI ha (K:=Hb) (fun hal=>by
  have hw:f2.w=[]:=by simpa [hal] using d4
  apply List.ext_getElem?;intro j;exact q3 j (by rw [hw];simp)) (fun id hid=>by
  refine q3 id ?_;rcases hid with hid | hid
  ·exact fun hm=>d3 id hm hid
  ·exact fun hm=>d2 id hid hm)
 have heq:Hba=H3:=by
  apply List.ext_getElem?
  intro j;by_cases hja:j∈f1.w
  ·rw [p2 j hja,kb1 j (d2 j hja)]
  ·rw [p3 j hja];by_cases hjb:j∈f2.w
   ·rw [q2 j hjb]
   ·rw [q3 j hjb,kb1 j hjb,ka1 j hja]
 subst heq;rw [gD,q1];dsimp only;rw [gD,yy G cI h2,p1];dsimp only;rw [<-tj h3,Ju]
theorem VQ {b0 ka:Nat} {a:bH} {fa:FP} {os:List (Nat×bH)} {t':List AV} {H':List Obj} {fs:List FP}:∀ (pre:List (Nat×bH)) (fp:List FP) (t:List AV) (H:List Obj),fp.length=pre.length->
 (∀ i (h1:i < pre.length) (h2:i < fp.length),c8 pre[i].2 a=true/\eX fp[i] fa=true)->
 gD G cI b0 (pre++(ka,a)::os) t H=some (t',H',fp++fa::fs)->gD G cI b0 ((ka,a)::(pre++os)) t H=some (t',H',fa::(fp++fs)):=by
 intro pre;induction pre with
 | nil=>
  intro fp t H hl _ h;have:fp=[]:=by simpa using hl
  subst this;exact h
 | cons b pre ih=>
  intro fp t H hl hf h;obtain ⟨kb,b⟩:=b
  cases fp with
  | nil=>simp at hl
  | cons fb fp=>
   have h0:=hf 0 (by simp) (by simp);refine ZV G cI h0.1 h0.2 ?_;rw [zaH,zaH,gD] at h;rw [gD]
   cases hb:qF G cI (b0+kb) b t H with
   | none=>rw [hb] at h;simp at h
   | some x=>
    obtain ⟨v,H1,f1⟩:=x;rw [hb] at h;dsimp only at h ⊢;split at h
    case h_2=>simp at h
    rename_i t1 H2 fs1 hr;simp only [za1,za4,zaE] at h;obtain ⟨rfl,rfl,rfl,rfl⟩:=h;have:=ih fp _ _ (by simpa using hl) (fun i q1 q2=>hf (i+1) (by simpa using q1) (by simpa using q2)) hr;change (match gD G cI b0 ((ka,a)::(pre++os)) (cY t b.dst v) H1 with | some (t',WV,fs)=>some (t',WV,f1::fs) | none=>none)=_;rw [this];rfl
theorem NL {b0:Nat} (at_:Nat->Nat×bH) (F:Nat->FP) {t':List AV} {H':List Obj}:∀ (π L:List Nat) (t:List AV) (H:List Obj),L.Perm π->L.Pairwise (· < ·)->
 π.Pairwise (fun a b=>b < a->c8 (at_ b).2 (at_ a).2=true/\eX (F b) (F a)=true)->
 gD G cI b0 (L.map at_) t H=some (t',H',L.map F)->gD G cI b0 (π.map at_) t H=some (t',H',π.map F):=by
 intro π;induction π with
 | nil=>intro L t H hp _ _ h;rw [List.Perm.eq_nil hp] at h;exact h
 | cons i π ih=>
  intro L t H hp hs hπ h;obtain ⟨L1,L2,rfl⟩:=List.append_of_mem (hp.mem_iff.2 (by simp:i∈i::π));have hp':(L1++L2).Perm π:=(List.Perm.cons_inv ((List.perm_middle (a:=i)).symm.trans hp));rw [zal,zal,za5,za5] at h;have hlt:∀ b∈L1,b < i:=by
   intro b hb;exact (zbx.1 hs).2.2 b hb i (by simp)
  have h2:=VQ G cI (ka:=(at_ i).1) (a:=(at_ i).2) (fa:=F i) (os:=L2.map at_) (L1.map at_) (L1.map F) t H (by simp) (by
   intro j h1 h2;simp only [zax];have hm:L1[j]'(by simpa using h1)∈L1:=zaG _;exact (zaB.1 hπ).1 _ (hp'.mem_iff.1 (by simp [hm])) (hlt _ hm)) h
  rw [za5,za5];have hat:at_ i=((at_ i).1,(at_ i).2):=rfl;rw [hat,gD];rw [gD] at h2
  cases ha:qF G cI (b0+(at_ i).1) (at_ i).2 t H with
  | none=>rw [ha] at h2;simp at h2
  | some x=>
   obtain ⟨v,H1,f1⟩:=x;rw [ha] at h2;dsimp only at h2 ⊢;split at h2
   case h_2=>simp at h2
   rename_i t1 H2 fs1 hr;simp only [za1,za4,zaE] at h2;obtain ⟨rfl,rfl,rfl,rfl⟩:=h2;rw [ih (L1++L2) _ _ hp' (hs.sublist (by simp)) (zaB.1 hπ).2 (by rw [zal,zal];exact hr)]
theorem Ej {b0:Nat}:∀ (l:List (Nat×bH)) (t t':List AV) (H H':List Obj) (fs:List FP),gD G cI b0 l t H=some (t',H',fs)->fs.length=l.length:=by
 intro l;induction l with
 | nil=>intro t t' H H' fs h;simp [gD] at h;simp [<-h.2.2]
 | cons o l ih=>
  intro t t' H H' fs h;obtain ⟨k,o⟩:=o;rw [gD] at h;split at h
  case h_2=>simp at h
  split at h
  case h_2=>simp at h
  rename_i hr;simp only [za1,za4] at h;obtain ⟨_,_,rfl⟩:=h;simp [ih _ _ _ _ _ hr]
theorem Jf {b0:Nat}:∀ (l:List (Nat×bH)) (t t':List AV) (H H':List Obj) (fs:List FP),gD G cI b0 l t H=some (t',H',fs)->
 ∀ i (h1:i < l.length) (h2:i < fs.length),(l[i].2.op.kind= .pure->fs[i]={})/\(l[i].2.op.kind≠ .write->fs[i].w=[])/\(l[i].2.op.kind= .write->fs[i].all=false)/\(l[i].2.op.kind= .read->fs[i].all=false):=by
 intro l;induction l with
 | nil=>intro t t' H H' fs _ i h1;simp at h1
 | cons o l ih=>
  intro t t' H H' fs h i h1 h2;obtain ⟨k,o⟩:=o;rw [gD] at h;split at h
  case h_2=>simp at h
  rename_i v H1 f ha;split at h
  case h_2=>simp at h
  rename_i hr;simp only [za1,za4] at h;obtain ⟨_,_,rfl⟩:=h
  cases i with
  | succ i=>exact ih _ _ _ _ _ hr i (by simpa using h1) (by simpa using h2)
  | zero=>
   simp only [zaF];unfold qF at ha;split at ha
   ·split at ha
    case isFalse=>simp at ha
    split at ha
    case h_2=>simp at ha
    simp only [za1,za4] at ha;obtain ⟨_,_,rfl⟩:=ha;refine ⟨fun hk=>BH G hk,fun hk=>?_,fun hk=>NK G hk,fun hk=>(BI G hk).2⟩
    cases hk':o.op.kind with
    | pure=>rw [BH G hk']
    | read=>exact (BI G hk').1
    | call=>exact BB G hk'
    | write=>exact (hk hk').elim
   ·simp only [za1,za4] at ha;obtain ⟨_,_,rfl⟩:=ha;exact ⟨fun _=>rfl,fun _=>rfl,fun _=>rfl,fun _=>rfl⟩
   ·simp at ha
theorem Jg {a b:FP} (h:eX a b=true):eX b a=true:=by
 simp only [eX,za0,yz] at h ⊢;obtain ⟨⟨⟨⟨d1,d2⟩,d3⟩,d4⟩,d5⟩:=h;exact ⟨⟨⟨⟨d3,fun x hx hx'=>d2 x hx' hx⟩,d1⟩,d5⟩,d4⟩
theorem Nt {b0:Nat} {ops:Array Oper} {l:List (Nat×bH)} {ps:List (Nat×Nat)} {π:List Nat} (ho:Ord ops l.length π)
 (hp:xo (before ops).toList (l.map (·.2)) ps=true) {t t':List AV} {H H':List Obj} {fs:List FP}
 (h:gD G cI b0 l t H=some (t',H',fs)) (hps:gy fs ps=true):
 ∃ fs',gD G cI b0 (π.map fun i=>l.getD i (0,default)) t H=some (t',H',fs'):=by
 have hfl:=Ej G cI _ _ _ _ _ _ h;have y8:=Jf G cI _ _ _ _ _ _ h;have e1:(List.range l.length).map (fun i=>l.getD i (0,default))=l:=by
  apply zb0
  ·simp
  ·intro i h1 h2;simp at h1;simp [List.getD,h1]
 have e2:(List.range l.length).map (fun i=>fs.getD i {})=fs:=by
  apply zb0
  ·simp [hfl]
  ·intro i h1 h2;simp at h1;simp [List.getD,h2]
 refine ⟨_,NL G cI (fun i=>l.getD i (0,default)) (fun i=>fs.getD i {}) π (List.range l.length) t H ?_ ?_ ?_ (by rw [e1,e2];exact h)⟩
 ·refine (List.perm_ext_iff_of_nodup List.nodup_range ho.nodup).2 fun i=>?_
  rw [ho.mem,zac]
 ·exact List.pairwise_lt_range
 ·refine ho.pair.imp_of_mem fun {a b} ha hb hab hlt=>?_
  have uP:a < l.length:=(ho.mem a).1 ha;have AR:b < l.length:=by omega
  have h1:=zai.1 (zai.1 hp a (zac.2 (by simpa using uP))) b (zac.2 hlt);rw [zay,zay,za2 uP,za2 AR,hab] at h1;simp only [zbQ,zaL,za0,zat] at h1;obtain ⟨h1,h2⟩:=h1;have haf:a < fs.length:=by omega
  have hbf:b < fs.length:=by omega
  simp only [List.getD,za2 uP,za2 AR,za2 haf,za2 hbf,zar];refine ⟨h1,?_⟩;obtain ⟨a1,a2,a3,a4⟩:=y8 a uP haf;obtain ⟨b1,b2,b3,b4⟩:=y8 b AR hbf;rcases h2 with h2 | h2
  ·have empty:∀ (x:FP),eX {} x=true:=by intro x;simp [eX,pX]
   have empty':∀ (x:FP),eX x {}=true:=fun x=>Jg (empty x)
   have rr:∀ (x y:FP),x.w=[]->y.w=[]->eX x y=true:=by intro x y hx hy;simp [eX,pX,hx,hy]
   cases hka:l[a].2.op.kind<;>cases hkb:l[b].2.op.kind<;>simp only [hka,hkb,lD] at h2 a1 a2 a3 a4 b1 b2 b3 b4;all_goals first
    | (exact absurd h2 Bool.false_ne_true)
    | (rw [a1 trivial];exact empty' _)
    | (rw [b1 trivial];exact empty _)
    | (exact rr _ _ (b2 Kind.noConfusion) (a2 Kind.noConfusion))
  ·have:=zai.1 hps (b,a) (by simpa using h2);simpa [List.getD,za2 haf,za2 hbf] using this
theorem D7 {ops:Array Oper} {bE:List bH} {ps:List (Nat×Nat)} (hd:rj ops bE ps=true) (mixed:Bool) (τ:Nat):Ord ops ops.size (schedule mixed ops τ):=by
 simp only [rj,za0] at hd;obtain ⟨⟨⟨h1,h2⟩,h3⟩,_⟩:=hd;exact oI h1 h2 h3 mixed τ
theorem yX {ops:Array Oper} {bE:List bH} {ps:List (Nat×Nat)} (hd:rj ops bE ps=true):xo (before ops).toList bE ps=true:=by
 simp only [rj,za0] at hd;exact hd.2
end
end Go.Am
end
section
namespace Go.Am
structure Ctx where
 w:World
 O:Nat->Prop
 ι:Nat->Nat
 K:Nat->Nat
 H:List Obj
def Has (c:Ctx) (id:Nat):Prop:=id < c.H.length/\c.H[id]?≠some .iA
def OW (c:Ctx) (id ext off len:Nat) (v:Value):Prop:=
 Has c id/\(∃ a cap,v= .slice a len cap)/\∀ nl sz es,c.H[id]?=some (.live nl sz es)->ext<=es.length/\(ext=es.length->off+len<=ext/\
  ((nl= .nil/\es=[]/\v= .slice none 0 0)\/(¬(nl= .nil/\es=[])/\∃ cap,v= .slice (some ⟨c.ι id,off*sz,none⟩) len cap/\off+cap=c.K id)))
def PO (c:Ctx) (id ext e o:Nat) (v:Value):Prop:=
 Has c id/\∃ a:Addr,v= .pointer (some a)/\a.spot=none/\∀ nl sz es,c.H[id]?=some (.live nl sz es)->ext<=es.length/\(ext=es.length->a=⟨c.ι id,e*sz+o,none⟩)
def AO (c:Ctx) (id ext e o len:Nat) (v:Value):Prop:=
 Has c id/\∃ a:Addr,(∃ cap,v= .slice (some a) len cap/\len<=cap)/\a.spot=none/\∀ nl sz es,c.H[id]?=some (.live nl sz es)->ext<=es.length/\(ext=es.length->a=⟨c.ι id,e*sz+o,none⟩)
theorem cO {n:Nat}:∀ {xs:List AV},AV.aT n xs=true->∀ i (hi:i < xs.length),xs[i].bp n=true
 | [],_,i,hi=>by simp at hi
 | x::xs,h,0,_=>by simp only [AV.aT,za0] at h;exact h.1
 | x::xs,h,i+1,hi=>by simp only [AV.aT,za0] at h;simpa using cO h.2 i (by simpa using hi)
theorem ij {n:Nat}:∀ {xs:List (List AV)},AV.bN n xs=true->∀ i (hi:i < xs.length),AV.aT n xs[i]=true
 | [],_,i,hi=>by simp at hi
 | x::xs,h,0,_=>by simp only [AV.bN,za0] at h;exact h.1
 | x::xs,h,i+1,hi=>by simp only [AV.bN,za0] at h;simpa using ij h.2 i (by simpa using hi)
def SV (c:Ctx) (id b:Nat):Prop:=Has c id/\∀ o,c.H[id]?=some o->o.sp=true->b=c.ι id
inductive V (c:Ctx):AV->Value->Prop where
 | any (v:Value):V c .any v
 | bool (b:Bool):V c (.bool b) (.bool b)
 | int (k:IntKind) (n:Int):V c (.int k n) (.int k n)
 | str (s:List UInt8):V c (.str s) (.string ⟨s.toArray⟩)
 | g7:V c .g7 (.pointer none)
 | bD:V c .bD (.slice none 0 0)
 | kL:V c .kL .nilFunc
 | pJ:V c .pJ (.map none)
 | fI (l b:Nat) (h:SV c l b):V c (.fI l) (.func (.yield b) #[] #[])
 | mp (l b:Nat) (h:SV c l b):V c (.mp l) (.map (some b))
 | qy (l b:Nat) (h:SV c l b):V c (.qy l) (.pointer (some ⟨b,0,none⟩))
 | nr:V c .nr .nilIface
 | B0:V c (.ro []) (.slice none 0 0)
 | ro (es:List (List AV)) (a:Addr) (cap sz:Nat) (vs:Nat->Nat->Value) (hb:∀ i j (hi:i < es.length) (hj:j < es[i].length),es[i][j].bp 0=true) (hcap:es.length<=cap)
  (h1:es≠[]->0 < sz->a.spot=none/\¬ c.O a.block) (h2:∀ i (hi:i < es.length),es[i].length=sz)
  (h3:∀ i j (hi:i < es.length),j < es[i].length->c.w.cell? ⟨a.block,a.off+i*sz+j,none⟩=some (vs i j))
  (h4:∀ i j (hi:i < es.length) (hj:j < es[i].length),V c es[i][j] (vs i j)):V c (.ro es) (.slice (some a) es.length cap)
 | bZ (cs:List AV) (a:Addr) (vs:Nat->Value) (hb:∀ j (hj:j < cs.length),cs[j].bp 0=true) (h1:cs≠[]->a.spot=none/\¬ c.O a.block)
  (h3:∀ j,j < cs.length->c.w.cell? ⟨a.block,a.off+j,none⟩=some (vs j))
  (h4:∀ j (hj:j < cs.length),V c cs[j] (vs j)):V c (.bZ cs) (.pointer (some a))
 | own (id ext off len:Nat) (v:Value) (h:OW c id ext off len v):V c (.own id ext off len) v
 | aA (id ext e o:Nat) (v:Value) (h:PO c id ext e o v):V c (.aA id ext e o) v
 | arr (id ext e o sz len:Nat) (v:Value) (h:AO c id ext e o len v):V c (.arr id ext e o sz len) v
 | agg (cs:List AV) (vs:Array Value) (hs:vs.size=cs.length) (h:∀ i (hi:i < cs.length) (hj:i < vs.size),V c cs[i] vs[i]):V c (.agg cs) (.agg vs)
 | bl (cs:List AV) (vs:Array Value) (hs:vs.size=cs.length) (h:∀ i (hi:i < cs.length) (hj:i < vs.size),V c cs[i] vs[i]):V c (.bl cs) (.tuple vs)
 | fn (f:Nat) (cap:List AV) (vs:Array Value) (hs:vs.size=cap.length) (h:∀ i (hi:i < cap.length) (hj:i < vs.size),V c cap[i] vs[i]):
  V c (.fn f cap) (.func (.func f) #[] vs)
 | b8 (f:Nat) (cap:List AV) (vs:Array Value) (hs:vs.size=cap.length) (h:∀ i (hi:i < cap.length) (hj:i < vs.size),V c cap[i] vs[i]):
  V c (.b8 f cap) (.func (.func f) vs #[])
theorem V.Gi {c d:Ctx} (hcell:∀ (b o:Nat) (u:Value),¬ c.O b->c.w.cell? ⟨b,o,none⟩=some u->d.w.cell? ⟨b,o,none⟩=some u/\¬ d.O b)
 (hO:∀ id ext off len v,OW c id ext off len v->OW d id ext off len v)
 (hP:∀ id ext e o v,PO c id ext e o v->PO d id ext e o v)
 (hA:∀ id ext e o len v,AO c id ext e o len v->AO d id ext e o len v)
 (hS:∀ id b,SV c id b->SV d id b)
 {x:AV} {v:Value} (h:V c x v):V d x v:=by
 induction h with
 | any v=>exact .any v
 | bool b=>exact .bool b
 | int k n=>exact .int k n
 | str s=>exact .str s
 | g7=>exact .g7
 | bD=>exact .bD
 | kL=>exact .kL
 | pJ=>exact .pJ
 | fI l b h=>exact .fI l b (hS _ _ h)
 | mp l b h=>exact .mp l b (hS _ _ h)
 | qy l b h=>exact .qy l b (hS _ _ h)
 | nr=>exact .nr
 | B0=>exact .B0
 | ro es a cap sz vs hb hcap h1 h2 h3 h4 ih=>
  refine .ro es a cap sz vs hb hcap (fun hne hz=>⟨(h1 hne hz).1,?_⟩) h2 (fun i j hi hj=>?_) ih
  ·have h0:0 < es.length:=zb1.2 hne;have:=h3 0 0 h0 (by rw [h2 0 h0];omega);exact (hcell _ _ _ (h1 hne hz).2 this).2
  ·have hz:0 < sz:=by rw [h2 i hi] at hj;omega
   exact (hcell _ _ _ (h1 (by intro e;simp [e] at hi) hz).2 (h3 i j hi hj)).1
 | bZ cs a vs hb h1 h3 h4 ih=>
  refine .bZ cs a vs hb (fun hne=>⟨(h1 hne).1,?_⟩) (fun j hj=>?_) ih
  ·exact (hcell _ _ _ (h1 hne).2 (h3 0 (zb1.2 hne))).2
  ·exact (hcell _ _ _ (h1 (by intro e;simp [e] at hj)).2 (h3 j hj)).1
 | own id ext off len v h=>exact .own _ _ _ _ _ (hO _ _ _ _ _ h)
 | aA id ext e o v h=>exact .aA _ _ _ _ _ (hP _ _ _ _ _ h)
 | arr id ext e o sz len v h=>exact .arr _ _ _ _ _ _ _ (hA _ _ _ _ _ _ h)
 | agg cs vs hs _ ih=>exact .agg cs vs hs ih
 | bl cs vs hs _ ih=>exact .bl cs vs hs ih
 | fn f cap vs hs _ ih=>exact .fn f cap vs hs ih
 | b8 f cap vs hs _ ih=>exact .b8 f cap vs hs ih
theorem V.mono {c d:Ctx} (hw:∀ b,¬ c.O b->(c.w.heap[b]?).isSome->d.w.heap[b]?=c.w.heap[b]?/\¬ d.O b)
 (hO:∀ id ext off len v,OW c id ext off len v->OW d id ext off len v)
 (hP:∀ id ext e o v,PO c id ext e o v->PO d id ext e o v)
 (hA:∀ id ext e o len v,AO c id ext e o len v->AO d id ext e o len v)
 (hS:∀ id b,SV c id b->SV d id b)
 {x:AV} {v:Value} (h:V c x v):V d x v:=by
 refine V.Gi ?_ hO hP hA hS h;have hcell:∀ (b o:Nat) (u:Value),¬ c.O b->c.w.cell? ⟨b,o,none⟩=some u->d.w.cell? ⟨b,o,none⟩=some u/\¬ d.O b:=by
  intro b o u hb hc;have hs:(c.w.heap[b]?).isSome:=by
   unfold World.cell? at hc
   cases h:c.w.heap[b]? with
   | none=>simp [h] at hc
   | some _=>rfl
  obtain ⟨e1,e2⟩:=hw b hb hs;exact ⟨by rw [<-hc];simp [World.cell?,e1],e2⟩
 exact hcell
end Go.Am
end
