/- A region that draws its order, makes objects and writes: the abstract machine comes to the same state whatever is drawn. Condition: drawOkW, and footprints that do not touch. -/
import Derived.Test.YtafgdbaekppjcaaGreatDoorAmEx
set_option linter.unusedSectionVars false
set_option linter.unusedVariables false
set_option linter.unusedSimpArgs false
namespace Go.Am
open Region
section
variable (G:Nat->List AV) (cI:CI)
theorem cK {H K:List Obj} {id:Nat} (h:K[id]?=H[id]?):aH K id=aH H id:=by unfold aH;rw [h]
theorem gO {H K:List Obj} {id:Nat} (h:K[id]?=H[id]?):cw K id=cw H id:=by unfold cw;rw [h]
theorem z4 {H K:List Obj} {n:Nat} {ag:Bool} {p:AV} (h:∀ id∈refs p,K[id]?=H[id]?):loadAt K n ag p=loadAt H n ag p:=by
 cases p<;>simp only [loadAt,refs,List.mem_singleton,forall_eq] at h ⊢;rw [cK h]
theorem DT {H K:List Obj} {sz:Nat} {x i:AV} (h:∀ id∈refs x,K[id]?=H[id]?):iu K sz x i=iu H sz x i:=by
 cases x<;>cases i<;>simp only [iu,refs,List.mem_singleton,forall_eq] at h ⊢;rw [cK h]
theorem GC {H K:List Obj} {sz:Nat} {x:AV} {lo hi:Option AV} (h:∀ id∈refs x,K[id]?=H[id]?):slc K sz x lo hi=slc H sz x lo hi:=by
 cases x<;>simp only [slc,refs,List.mem_singleton,forall_eq] at h ⊢;rw [cK h,gO h]
theorem DU {H K:List Obj} {len sz:Nat} {x:AV} {lo hi:Option AV} (h:∀ id∈refs x,K[id]?=H[id]?):j7 K len sz x lo hi=j7 H len sz x lo hi:=by
 cases x<;>simp only [j7,refs,List.mem_singleton,forall_eq] at h ⊢;rw [cK h]
theorem sH {H K:List Obj} {x:AV} (h:∀ id∈refs x,K[id]?=H[id]?):isNil K x=isNil H x:=by
 cases x<;>simp only [isNil,refs,List.mem_singleton,forall_eq] at h ⊢;rw [cK h,gO h]
theorem GD {H K:List Obj} {neg:Bool} {x y:AV} (h:∀ id∈refs x++refs y,K[id]?=H[id]?):yz K neg x y=yz H neg x y:=by
 have hx:isNil K x=isNil H x:=sH fun id hm=>h id (by simp [hm])
 have hy:isNil K y=isNil H y:=sH fun id hm=>h id (by simp [hm])
 cases y<;>cases x<;>simp only [yz,hx,hy]
theorem n9 {H K:List Obj} {x:AV} (h:∀ id∈refs x,K[id]?=H[id]?):di K x=di H x:=by
 cases x<;>simp only [di,gX,refs,List.mem_singleton,forall_eq] at h ⊢;all_goals rw [cK h]
theorem Cj {t:List AV} {H K:List Obj} {pl:Nat} {x:RO} (h:∀ id∈(dZ G t pl x).r,K[id]?=H[id]?):aQ G t K x=aQ G t H x:=by
 cases x<;>simp only [aQ,dZ] at h ⊢
 ·rw [z4 h]
 ·rw [GD h]
 ·rw [DT h]
 ·rw [GC h]
 ·rw [DU h]
theorem zU {t:List AV} {pl:Nat} {x:RO} (h:x.kind= .pure):dZ G t pl x={}:=by
 cases x<;>simp [RO.kind] at h<;>rfl
theorem zV {t:List AV} {pl:Nat} {x:RO} (h:x.kind= .read):(dZ G t pl x).w=[]/\(dZ G t pl x).all=false:=by
 cases x<;>simp [RO.kind] at h<;>exact ⟨rfl,rfl⟩
theorem zL {t:List AV} {pl:Nat} {x:RO} (h:x.kind= .call):(dZ G t pl x).w=[]:=by
 cases x<;>simp [RO.kind] at h<;>rfl
theorem Li {t:List AV} {pl:Nat} {x:RO} (h:x.kind= .write):(dZ G t pl x).all=false:=by
 cases x<;>simp [RO.kind] at h<;>rfl
theorem rS (K:List Obj) (d:Nat):∀ xs:List AV,AV.aS 0 xs=true->eR (pk d K) xs=some xs
 | [],_=>rfl
 | x::xs,h=>by
  simp only [AV.aS,Bool.and_eq_true] at h;have h1:pk d K x=some x:=by cases d<;>simp [pk,AV.eS,h.1]
  simp only [eR,h1,rS K d xs h.2]
theorem Ck {H K:List Obj} {f:Nat} {args:List AV} {v:AV} {H':List Obj} (hf:AV.aS 0 args=true)
 (h:bI eF cI j6 f args H=some (v,H')):bI eF cI j6 f args K=some (v,K):=by
 unfold bI at h ⊢;simp only [eF,Bool.false_eq_true,if_false,snaps,rS _ _ _ hf] at h ⊢;split at h
 ·split at h
  ·simp only [Option.some.injEq,Prod.mk.injEq] at h;rename_i h1;simp only [h1,if_true];simp [h.1]
  ·simp at h
 ·simp at h
theorem ju {H:List Obj} {pl:Nat} {o:Obj} (h:pl < H.length) (j:Nat):(putObj H pl o)[j]?=if j=pl then some o else H[j]?:=by
 unfold putObj;rw [if_pos h];by_cases hj:j=pl
 ·subst hj;simp [h]
 ·rw [List.getElem?_set_ne (fun e=>hj e.symm),if_neg hj]
theorem k8 {H:List Obj} {pl:Nat} {x:RO} (h:qO H pl x=true) (ha:x.dA=true):H[pl]?=some .gB:=by
 simp only [qO,ha,Bool.not_true,Bool.false_or] at h;split at h
 ·assumption
 ·simp at h
theorem uB {H:List Obj} {pl:Nat} (h:H[pl]?=some .gB):pl < H.length:=by
 rcases Nat.lt_or_ge pl H.length with e | e
 ·exact e
 ·rw [List.getElem?_eq_none e] at h;simp at h
theorem kJ {H K:List Obj} {pl:Nat} {o:Obj} {l:List Nat} (h1:H[pl]?=some .gB) (h2:K[pl]?=some .gB) (hl:pl∈l) (hag:∀ id∈l,K[id]?=H[id]?):
 (∀ id∈l,(putObj K pl o)[id]?=(putObj H pl o)[id]?)/\∀ id,id ∉ l->(putObj K pl o)[id]?=K[id]?:=by
 constructor
 ·intro id hid;rw [ju (uB h1),ju (uB h2),hag id hid]
 ·intro id hid;rw [ju (uB h2),if_neg (by rintro rfl;exact hid hl)]
theorem kK {H K:List Obj} {i:Nat} {o:Obj} {l:List Nat} (hi:i < H.length) (hK:i < K.length) (hl:i∈l) (hag:∀ id∈l,K[id]?=H[id]?):
 (∀ id∈l,(K.set i o)[id]?=(H.set i o)[id]?)/\∀ id,id ∉ l->(K.set i o)[id]?=K[id]?:=by
 constructor
 ·intro id hid;by_cases h:id=i
  ·subst h;simp [hi,hK]
  ·rw [List.getElem?_set_ne (fun e=>h e.symm),List.getElem?_set_ne (fun e=>h e.symm),hag id hid]
 ·intro id hid;rw [List.getElem?_set_ne (by rintro rfl;exact hid hl)]
theorem nk {H:List Obj} {id:Nat} {r} (h:aH H id=some r):id < H.length:=by
 unfold aH at h;split at h
 ·rename_i h1;rcases Nat.lt_or_ge id H.length with e | e
  ·exact e
  ·rw [List.getElem?_eq_none e] at h1;simp at h1
 ·simp at h
theorem mY {H K:List Obj} {id:Nat} (h:K[id]?=H[id]?):iU K id=iU H id:=by unfold iU;rw [h]
theorem oa {H K:List Obj} {x:AV} (h:∀ id∈refs x,K[id]?=H[id]?):entries K x=entries H x:=by
 cases x<;>simp only [entries,refs,List.mem_singleton,forall_eq] at h ⊢;rw [mY h]
theorem Px {H:List Obj} {id:Nat} {r} (h:iU H id=some r):id < H.length:=by
 unfold iU at h;split at h
 ·rename_i h1;rcases Nat.lt_or_ge id H.length with e | e
  ·exact e
  ·rw [List.getElem?_eq_none e] at h1;simp at h1
 ·simp at h
theorem DV {H K H':List Obj} {k:CK} {m x v:AV} (h:hY H k m x v=some H') (hag:∀ id∈refs m,K[id]?=H[id]?):
 ∃ K',hY K k m x v=some K'/\(∀ id∈refs m,K'[id]?=H'[id]?)/\∀ id,id ∉ refs m->K'[id]?=K[id]?:=by
 cases m<;>simp only [hY] at h<;>try (simp at h;done)
 rename_i id;simp only [refs,List.mem_singleton,forall_eq] at hag ⊢;simp only [hY,mY hag];split at h
 case h_2=>simp at h
 rename_i es hl;have Cs:iU K id=some es:=by rw [mY hag];exact hl
 have fr:=fun o=>kK (l:=[id]) (o:=o) (Px hl) (Px Cs) (by simp) (by simpa using hag)
 split at h
 ·injection h with h;subst h
  rename_i hf;exact ⟨_,rfl,(fr _).1 id (by simp),fun j hj=>(fr _).2 j (by simpa using hj)⟩
 ·rename_i hf;split at h
  case isFalse=>simp at h
  rename_i he;injection h with h;subst h
  rw [if_pos he];exact ⟨_,rfl,(fr _).1 id (by simp),fun j hj=>(fr _).2 j (by simpa using hj)⟩
 ·simp at h
theorem GF {H K H':List Obj} {x v:AV} (h:sK H x=some (v,H')) (hag:∀ id∈refs x,K[id]?=H[id]?):
 ∃ K',sK K x=some (v,K')/\(∀ id∈refs x,K'[id]?=H'[id]?)/\∀ id,id ∉ refs x->K'[id]?=K[id]?:=by
 cases x<;>simp only [sK] at h<;>try (simp at h;done)
 rename_i id;simp only [refs,List.mem_singleton,forall_eq] at hag ⊢;simp only [sK,hag];split at h
 case h_2=>simp at h
 rename_i s pos hl;have lt:∀ L:List Obj,L[id]?=some (Obj.it s pos)->id < L.length:=fun L e=>by
  rcases Nat.lt_or_ge id L.length with q | q
  ·exact q
  ·rw [List.getElem?_eq_none q] at e;simp at e
 have fr:=fun o=>kK (l:=[id]) (o:=o) (lt H hl) (lt K (by rw [hag];exact hl)) (by simp) (by simpa using hag)
 split at h
 ·rename_i hp;rw [if_pos hp];simp only [Option.some.injEq,Prod.mk.injEq] at h;obtain ⟨rfl,rfl⟩:=h;exact ⟨_,rfl,(fr _).1 id (by simp),fun j hj=>(fr _).2 j (by simpa using hj)⟩
 ·rename_i hp;rw [if_neg hp];simp only [Option.some.injEq,Prod.mk.injEq] at h;obtain ⟨rfl,rfl⟩:=h;exact ⟨K,rfl,hag,fun _ _=>rfl⟩
theorem wS {H K H':List Obj} {n:Nat} {a x:AV} (h:storeAt H n a x=some H') (hag:∀ id∈refs a,K[id]?=H[id]?):
 ∃ K',storeAt K n a x=some K'/\(∀ id∈refs a,K'[id]?=H'[id]?)/\∀ id,id ∉ refs a->K'[id]?=K[id]?:=by
 cases a<;>simp only [storeAt] at h<;>try (simp at h;done)
 rename_i id ext e o;simp only [refs,List.mem_singleton,forall_eq] at hag ⊢;split at h
 case h_2=>simp at h
 rename_i sz es hl;split at h
 case isFalse=>simp at h
 rename_i hc;split at h
 case h_2=>simp at h
 rename_i cs hcs;injection h with h;subst h
 have PW:aH K id=some (sz,es):=by rw [cK hag];exact hl
 obtain ⟨f1,f2⟩:=kK (l:=[id]) (o:= .live (cw H id) sz (es.set e (putAt cs o x.cells))) (nk hl) (nk PW) (by simp) (by simpa using hag);refine ⟨K.set id (.live (cw H id) sz (es.set e (putAt cs o x.cells))),?_,f1 id (by simp),fun j hj=>f2 j (by simpa using hj)⟩;simp only [storeAt,PW,gO hag];rw [if_pos hc,hcs]
theorem z5 {H K H':List Obj} {pl sz bytes:Nat} {s x v:AV} (h:append H pl sz bytes s x=some (v,H')) (cZ:H[pl]?=some .gB)
 (hag:∀ id,id∈refs x\/id∈pl::refs s->K[id]?=H[id]?):
 ∃ K',append K pl sz bytes s x=some (v,K')/\(∀ id∈pl::refs s,K'[id]?=H'[id]?)/\∀ id,id ∉ pl::refs s->K'[id]?=K[id]?:=by
 have hx:di K x=di H x:=n9 fun id hm=>hag id (.inl hm)
 have UR:K[pl]?=some .gB:=by rw [hag pl (.inr (by simp))];exact cZ
 unfold append at h;split at h
 ·simp at h
 rename_i new hn;have Xq:di K x=some new:=by rw [hx];exact hn
 split at h
 case isFalse=>simp at h
 rename_i hall;split at h
 ·split at h
  ·rename_i hnew;simp only [Option.some.injEq,Prod.mk.injEq] at h;obtain ⟨rfl,rfl⟩:=h;exact ⟨K,by simp [append,Xq,hnew],fun id hid=>hag id (.inr hid),fun _ _=>rfl⟩
  ·rename_i hnew;split at h
   case isFalse=>simp at h
   rename_i hb;simp only [Option.some.injEq,Prod.mk.injEq] at h;obtain ⟨rfl,rfl⟩:=h;obtain ⟨f1,f2⟩:=kJ (o:= .live .norm sz new) (l:=pl::refs .bx) cZ UR (by simp) (fun id hid=>hag id (.inr hid));exact ⟨_,by simp only [append,Xq];rw [if_pos hall,if_neg hnew,if_pos hb],f1,f2⟩
 ·rename_i id ext off len;split at h
  case h_2=>simp at h
  rename_i sz' es hl;split at h
  case isFalse=>simp at h
  rename_i hc;have hid:K[id]?=H[id]?:=hag id (.inr (by simp [refs]));have PW:aH K id=some (sz',es):=by rw [cK hid];exact hl
  split at h
  ·rename_i hg;simp only [Option.some.injEq,Prod.mk.injEq] at h;obtain ⟨rfl,rfl⟩:=h;obtain ⟨f1,f2⟩:=kK (l:=pl::refs (.own id ext off len)) (o:= .live (cw H id) sz (es++new)) (nk hl) (nk PW) (by simp [refs]) (fun j hj=>hag j (.inr hj));refine ⟨K.set id (.live (cw H id) sz (es++new)),?_,f1,f2⟩;simp only [append,Xq,PW,gO hid];rw [if_pos hall,if_pos hc,if_pos hg]
  ·rename_i hg;split at h
   case h_2=>simp at h
   rename_i fl hfl;split at h
   case isFalse=>simp at h
   rename_i hq;simp only [Option.some.injEq,Prod.mk.injEq] at h;obtain ⟨rfl,rfl⟩:=h;obtain ⟨f1,f2⟩:=kK (l:=pl::refs (.own id ext off len)) (o:= .live fl sz es) (nk hl) (nk PW) (by simp [refs]) (fun j hj=>hag j (.inr hj));have hne:id≠pl:=by omega
   have Mr:(H.set id (.live fl sz es))[pl]?=some .gB:=by rw [List.getElem?_set_ne hne];exact cZ
   have Wu:(K.set id (.live fl sz es))[pl]?=some .gB:=by rw [List.getElem?_set_ne hne];exact UR
   obtain ⟨g1,g2⟩:=kJ (o:= .live .ch sz (es++new)) (l:=pl::refs (.own id ext off len)) Mr Wu (by simp) f1;refine ⟨_,?_,g1,fun j hj=>by rw [g2 j hj,f2 j hj]⟩;simp only [append,Xq,PW,gO hid];rw [if_pos hall,if_pos hc,if_neg hg,hfl];dsimp only;rw [if_pos hq]
 ·simp at h
theorem ym {f g:AV->Option AV} (hfg:∀ x,x.bA 0=true->f x=g x):∀ L:List AV,AV.aS 0 L=true->eR f L=eR g L
 | [],_=>rfl
 | x::xs,h=>by
  simp only [AV.aS,Bool.and_eq_true] at h;simp only [eR,hfg x h.1,ym hfg xs h.2]
theorem wm {f g:AV->Option AV} (hfg:∀ x,x.bA 0=true->f x=g x):∀ L:List (List AV),AV.bM 0 L=true->fV f L=fV g L
 | [],_=>rfl
 | x::xs,h=>by
  simp only [AV.bM,Bool.and_eq_true] at h;simp only [fV,ym hfg x h.1,wm hfg xs h.2]
theorem Oi (H K:List Obj) (d:Nat) (x:AV) (h:x.bA 0=true):pk d K x=pk d H x:=by
 cases d<;>simp [pk,AV.eS,h]
theorem Cl {H K:List Obj} {x:AV} (h:∀ id∈refs x,K[id]?=H[id]?):ki K x=ki H x:=by
 unfold ki;split
 ·rfl
 ·rename_i hb
  cases x<;>try rfl
  rename_i id ext off len;have h1:=h id (by simp [refs]);simp only [h1];split
  ·rename_i fl sz es hH;split
   ·rename_i CE;rw [hH] at h1;have key:∀ d,pk (d+1) K (.own id ext off len)=pk (d+1) H (.own id ext off len):=fun d=>by
     simp only [pk,AV.eS,hb,aH,cw,h1,hH,Bool.false_eq_true,if_false];rw [wm (fun x hx=>Oi H K d x hx) _ CE]
    exact key 5
   ·rfl
  ·rfl
theorem jV {H K:List Obj}:∀ {xs:List AV},(∀ id∈xs.flatMap refs,K[id]?=H[id]?)->jJ K xs=jJ H xs
 | [],_=>rfl
 | x::xs,h=>by
  simp only [jJ];rw [Cl (x:=x) fun id hid=>h id (by simp [hid]),jV (xs:=xs) fun id hid=>h id (by simp only [List.flatMap_cons,List.mem_append];exact .inr hid)]
theorem jU {H:List Obj}:∀ {xs ys:List AV},jJ H xs=some ys->snaps H xs=some ys
 | [],ys,h=>by simpa [jJ,snaps,eR] using h
 | x::xs,ys,h=>by
  simp only [jJ] at h;split at h
  case h_2=>simp at h
  rename_i y r h1 h2;simp only [Option.some.injEq] at h;subst h;have h3:=jU h2;have h4:pk 6 H x=some y:=by
   unfold ki at h1;split at h1
   ·rename_i hb;injection h1 with h1;subst h1
    simp [pk,AV.eS,hb]
   ·split at h1
    ·split at h1
     ·split at h1
      ·exact h1
      ·simp at h1
     ·simp at h1
    ·simp at h1
  unfold snaps at h3 ⊢;simp only [eR,h4,h3]
theorem Cm {H K:List Obj} {f:Nat} {args:List AV} {v:AV} {H':List Obj} (hok:kV H args=true) (hag:∀ id∈args.flatMap refs,K[id]?=H[id]?)
 (h:bI eF cI j6 f args H=some (v,H')):bI eF cI j6 f args K=some (v,K)/\H'=H:=by
 unfold kV at hok
 cases hl:jJ H args with
 | none=>rw [hl] at hok;simp at hok
 | some ys=>
  have h1:=jU hl;have h2:snaps K args=some ys:=jU (by rw [jV hag];exact hl);unfold bI at h ⊢;simp only [eF,Bool.false_eq_true,if_false,h1,h2] at h ⊢;split at h
  case h_2=>simp at h
  split at h
  case isFalse=>simp at h
  rename_i hc;simp only [Option.some.injEq,Prod.mk.injEq] at h;obtain ⟨rfl,rfl⟩:=h;exact ⟨by rw [if_pos hc],rfl⟩
theorem lC {x:RO} {t:List AV} {H H' K:List Obj} {pl:Nat} {v:AV} (hnc:∀ f args,x≠ .call f args) (h:evalOp G eF cI j6 pl x t H=some (v,H')) (cZ:qO H pl x=true)
 (hall:(dZ G t pl x).all=true->K=H) (hag:∀ id,id∈(dZ G t pl x).r\/id∈(dZ G t pl x).w->K[id]?=H[id]?):
 ∃ K',evalOp G eF cI j6 pl x t K=some (v,K')/\(∀ id∈(dZ G t pl x).w,K'[id]?=H'[id]?)/\∀ id,id ∉ (dZ G t pl x).w->K'[id]?=K[id]?:=by
 cases hk:x.kind with
 | pure=>
  unfold evalOp at h ⊢;rw [hk] at h ⊢;dsimp only at h ⊢;split at h
  case h_2=>simp at h
  rename_i u hu;simp only [Option.some.injEq,Prod.mk.injEq] at h;obtain ⟨rfl,rfl⟩:=h;rw [zU G hk];exact ⟨K,by simp [hu],fun id hid=>by simp at hid,fun _ _=>rfl⟩
 | read=>
  unfold evalOp at h ⊢;rw [hk] at h ⊢;dsimp only at h ⊢;split at h
  case h_2=>simp at h
  rename_i u hu;simp only [Option.some.injEq,Prod.mk.injEq] at h;obtain ⟨rfl,rfl⟩:=h;have hKR:=Cj G (t:=t) (pl:=pl) (x:=x) (H:=H) (K:=K) fun id hid=>hag id (.inl hid)
  rw [(zV G hk).1];exact ⟨K,by rw [hKR,hu],fun id hid=>by simp at hid,fun _ _=>rfl⟩
 | call=>
  rw [zL G hk];refine ⟨K,?_,fun id hid=>by simp at hid,fun _ _=>rfl⟩;by_cases ha:(dZ G t pl x).all=true
  ·rw [hall ha];have:=xG G cI (by rw [hk];simp) h;rw [h,this]
  ·have Xl:∀ f args,AV.aS 0 args=true->bI eF cI j6 f args H=some (v,H')->bI eF cI j6 f args K=some (v,K):=fun f args hf hd=>Ck cI hf hd
   unfold evalOp at h ⊢;rw [hk] at h ⊢;dsimp only at h ⊢
   cases x with
   | call f args=>exact (hnc _ _ rfl).elim
   | fJ fx args=>
    simp only [dZ] at ha h ⊢;split at h
    case h_3=>simp [j6] at h
    case h_4=>simp at h
    case h_2=>
     rename_i f cap GX;rw [GX] at ha;simp only [Bool.not_eq_true,Bool.not_eq_false',Bool.and_eq_true,AV.bA] at ha;refine Xl _ _ ?_ h;have app:∀ (a b:List AV),AV.aS 0 a=true->AV.aS 0 b=true->AV.aS 0 (a++b)=true:=by
      intro a b ha hb;induction a with
      | nil=>exact hb
      | cons y a ih=>simp only [AV.aS,Bool.and_eq_true,List.cons_append] at ha ⊢;exact ⟨ha.1,ih ha.2⟩
     exact app _ _ ha.1 ha.2
    rename_i f cap GX;rw [GX] at ha;simp only [Bool.not_eq_true,Bool.not_eq_false',Bool.and_eq_true,AV.bA] at ha;refine Xl _ _ ?_ h;have app:∀ (a b:List AV),AV.aS 0 a=true->AV.aS 0 b=true->AV.aS 0 (a++b)=true:=by
     intro a b ha hb;induction a with
     | nil=>exact hb
     | cons y a ih=>simp only [AV.aS,Bool.and_eq_true,List.cons_append] at ha ⊢;exact ⟨ha.1,ih ha.2⟩
    exact app _ _ ha.2 ha.1
   | _=>simp [RO.kind] at hk
 | write=>
  unfold evalOp at h ⊢;rw [hk] at h ⊢;dsimp only at h ⊢;have alloc:∀ (o:Obj),x.dA=true->(dZ G t pl x).w=[pl]->
   (∀ id∈(dZ G t pl x).w,(putObj K pl o)[id]?=(putObj H pl o)[id]?)/\∀ id,id ∉ (dZ G t pl x).w->(putObj K pl o)[id]?=K[id]?:=by
   intro o ha hw;have h1:=k8 cZ ha;refine kJ h1 ?_ (by rw [hw];simp) fun id hid=>hag id (.inr hid)
   rw [hag pl (.inr (by rw [hw];simp))];exact h1
  cases x with
  | box y=>
   simp only [evalW] at h ⊢;split at h
   case isFalse=>simp at h
   simp only [Option.some.injEq,Prod.mk.injEq] at h;obtain ⟨rfl,rfl⟩:=h;exact ⟨_,by rw [if_pos (by assumption)],alloc _ rfl rfl⟩
  | alloc z=>
   simp only [evalW] at h ⊢;split at h
   case isFalse=>simp at h
   simp only [Option.some.injEq,Prod.mk.injEq] at h;obtain ⟨rfl,rfl⟩:=h;exact ⟨_,by rw [if_pos (by assumption)],alloc _ rfl rfl⟩
  | sY sz z len parts=>
   simp only [evalW] at h ⊢;split at h
   case isFalse=>simp at h
   rename_i hc;rw [if_pos hc];split at h
   case h_2=>simp at h
   rename_i es qI;simp only [Option.some.injEq,Prod.mk.injEq] at h;obtain ⟨rfl,rfl⟩:=h;exact ⟨_,rfl,alloc _ rfl rfl⟩
  | D2 sz z bytes l cp=>
   simp only [evalW] at h ⊢;split at h
   case h_2=>simp at h
   split at h
   case isFalse=>simp at h
   rename_i hc;rw [if_pos hc];simp only [Option.some.injEq,Prod.mk.injEq] at h;obtain ⟨rfl,rfl⟩:=h;exact ⟨_,rfl,alloc _ rfl rfl⟩
  | yM z len parts=>
   simp only [evalW] at h ⊢;split at h
   case isFalse=>simp at h
   rename_i hc;rw [if_pos hc];split at h
   case h_2=>simp at h
   rename_i es qI;split at h
   case isFalse=>simp at h
   rename_i hb;rw [if_pos hb];simp only [Option.some.injEq,Prod.mk.injEq] at h;obtain ⟨rfl,rfl⟩:=h;exact ⟨K,rfl,fun id hid=>hag id (.inr hid),fun _ _=>rfl⟩
  | qL sz z bytes l cp=>
   simp only [evalW] at h ⊢;split at h
   case h_2=>simp at h
   split at h
   case isFalse=>simp at h
   rename_i hc;rw [if_pos hc];simp only [Option.some.injEq,Prod.mk.injEq] at h;obtain ⟨rfl,rfl⟩:=h;exact ⟨_,rfl,alloc _ rfl rfl⟩
  | store n a y=>
   simp only [evalW] at h ⊢;split at h
   case h_2=>simp at h
   rename_i H2 hs;simp only [Option.some.injEq,Prod.mk.injEq] at h;obtain ⟨rfl,rfl⟩:=h;obtain ⟨K',k1,k2,k3⟩:=wS hs fun id hid=>hag id (.inr hid)
   exact ⟨K',by rw [k1],k2,k3⟩
  | app sz bytes s y=>
   simp only [evalW] at h ⊢;exact z5 h (k8 cZ rfl) fun id hid=>hag id hid
  | bad=>simp [evalW] at h
  | qH f args=>simp [evalW] at h
  | kO sz bytes s y=>simp [evalW] at h
  | lQ sz z len parts=>simp [evalW] at h
  | FB=>
   simp only [evalW,Option.some.injEq,Prod.mk.injEq] at h ⊢;obtain ⟨rfl,rfl⟩:=h;exact ⟨_,⟨rfl,rfl⟩,alloc _ rfl rfl⟩
  | Cq y=>
   simp only [evalW] at h ⊢;split at h
   case h_2=>simp at h
   simp only [Option.some.injEq,Prod.mk.injEq] at h;obtain ⟨rfl,rfl⟩:=h;exact ⟨_,rfl,alloc _ rfl rfl⟩
  | hY k m x v=>
   simp only [evalW] at h ⊢;split at h
   case h_2=>simp at h
   rename_i H2 hs;simp only [Option.some.injEq,Prod.mk.injEq] at h;obtain ⟨rfl,rfl⟩:=h;obtain ⟨K',k1,k2,k3⟩:=DV hs fun id hid=>hag id (.inr hid)
   exact ⟨K',by rw [k1],k2,k3⟩
  | sK y=>
   simp only [evalW] at h ⊢;exact GF h fun id hid=>hag id (.inr hid)
  | ia k z ok m x=>
   simp only [evalW] at h ⊢;have e:∀ L:List Obj,entries L (m.ev G t)=entries H (m.ev G t)->Am.ia L k z ok (m.ev G t) (x.ev G t)=Am.ia H k z ok (m.ev G t) (x.ev G t):=fun L e=>by unfold Am.ia;rw [e]
   rw [e K (oa fun id hid=>hag id (.inl hid))];split at h
   case h_2=>simp at h
   rename_i hs;simp only [Option.some.injEq,Prod.mk.injEq] at h;obtain ⟨rfl,rfl⟩:=h;exact ⟨K,rfl,fun id hid=>hag id (.inr hid),fun _ _=>rfl⟩
  | iP m=>
   simp only [evalW] at h ⊢;have e:∀ L:List Obj,entries L (m.ev G t)=entries H (m.ev G t)->Am.iP L (m.ev G t)=Am.iP H (m.ev G t):=fun L e=>by unfold Am.iP;rw [e]
   rw [e K (oa fun id hid=>hag id (.inl hid))];split at h
   case h_2=>simp at h
   rename_i hs;simp only [Option.some.injEq,Prod.mk.injEq] at h;obtain ⟨rfl,rfl⟩:=h;exact ⟨K,rfl,fun id hid=>hag id (.inr hid),fun _ _=>rfl⟩
  | z6 m=>
   simp only [evalW] at h ⊢;have e:∀ L:List Obj,di L (m.ev G t)=di H (m.ev G t)->Am.z6 L (m.ev G t)=Am.z6 H (m.ev G t):=fun L e=>by unfold Am.z6;rw [e]
   rw [e K (n9 fun id hid=>hag id (.inl hid))];split at h
   case h_2=>simp at h
   rename_i hs;simp only [Option.some.injEq,Prod.mk.injEq] at h;obtain ⟨rfl,rfl⟩:=h;exact ⟨K,rfl,fun id hid=>hag id (.inr hid),fun _ _=>rfl⟩
  | _=>simp [RO.kind] at hk
theorem qE {w:List Nat} {v1 r:AV} {H1 H2 K1 K:List Obj} (h:eA w (some (v1,H1))=some (r,H2)) (k2:∀ id∈w,K1[id]?=H1[id]?) (k3:∀ id,id ∉ w->K1[id]?=K[id]?):
 ∃ K2,eA w (some (v1,K1))=some (r,K2)/\(∀ id∈w,K2[id]?=H2[id]?)/\∀ id,id ∉ w->K2[id]?=K[id]?:=by
 unfold eA at h ⊢;dsimp only at h ⊢;split at h
 case isFalse=>simp at h
 rename_i hin;rw [if_pos hin];have hw:∀ id∈refs v1,id∈w:=fun id hid=>by
  have:=List.all_eq_true.1 hin id hid;simpa using this
 split at h
 case h_2=>simp at h
 rename_i r0 H20 hf;simp only [Option.some.injEq,Prod.mk.injEq] at h;obtain ⟨rfl,rfl⟩:=h;simp only [jB,List.getD_cons_zero] at hf ⊢;split at hf
 ·rename_i id ext off len;have hid:=hw id (by simp [refs]);have hg:=k2 id hid;rw [cK hg,gO hg];split at hf
  case h_2=>simp at hf
  rename_i Ct es hl;try rw [hl]
  try dsimp only
  split at hf
  case isFalse=>simp at hf
  rename_i hc;try rw [if_pos hc]
  simp only [Option.some.injEq,St.mk.injEq,List.set_cons_zero,List.cons.injEq,and_true] at hf;obtain ⟨rfl,rfl⟩:=hf;have hlt:id < H1.length:=by
   rcases Nat.lt_or_ge id H1.length with e | e
   ·exact e
   ·simp [aH,List.getElem?_eq_none e] at hl
  have ae8:id < K1.length:=by
   rcases Nat.lt_or_ge id K1.length with e | e
   ·exact e
   ·rw [List.getElem?_eq_none e] at hg;rw [List.getElem?_eq_getElem hlt] at hg;simp at hg
  refine ⟨_,rfl,fun i hi=>?_,fun i hi=>?_⟩
  ·by_cases e:id=i
   ·subst e;simp [hlt,ae8]
   ·rw [List.getElem?_set_ne e,List.getElem?_set_ne e];exact k2 i hi
  ·have e:id≠i:=by rintro rfl;exact hi hid
   rw [List.getElem?_set_ne e];exact k3 i hi
 ·simp only [Option.some.injEq,St.mk.injEq,List.cons.injEq,and_true] at hf;obtain ⟨rfl,rfl⟩:=hf;refine ⟨K1,?_,k2,k3⟩
  cases v1<;>first | rfl | (rename_i hne;exact (hne _ _ _ _ rfl).elim)
theorem Cn {x:RO} {t:List AV} {H H' K:List Obj} {pl:Nat} {v:AV} (h:eW G cI pl x t H=some (v,H')) (cZ:qO H pl x=true)
 (hall:(dZ G t pl x).all=true->K=H) (hag:∀ id,id∈(dZ G t pl x).r\/id∈(dZ G t pl x).w->K[id]?=H[id]?):
 ∃ K',eW G cI pl x t K=some (v,K')/\(∀ id∈(dZ G t pl x).w,K'[id]?=H'[id]?)/\∀ id,id ∉ (dZ G t pl x).w->K'[id]?=K[id]?:=by
 by_cases hm:∃ f args,x= .qH f args
 ·obtain ⟨f,args,rfl⟩:=hm;simp only [eW,mkObj] at h ⊢;rw [jV (K:=K) (H:=H) fun id hid=>hag id (.inl (by simpa [dZ] using hid))];split at h
  case h_2=>simp at h
  rename_i ys hys;split at h
  case h_2=>simp at h
  rename_i sz x hc;try rw [hc]
  split at h
  case isFalse=>simp at h
  rename_i hb;try rw [if_pos hb]
  have h1:=k8 cZ rfl;have h2:K[pl]?=some .gB:=by rw [hag pl (.inr (by simp [dZ]))];exact h1
  unfold ue at h ⊢;split at h
  ·simp only [Option.some.injEq,Prod.mk.injEq] at h;obtain ⟨rfl,rfl⟩:=h;exact ⟨_,rfl,kJ h1 h2 (by simp [dZ]) fun id hid=>hag id (.inr hid)⟩
  ·simp only [Option.some.injEq,Prod.mk.injEq] at h;obtain ⟨rfl,rfl⟩:=h;exact ⟨K,rfl,fun id hid=>hag id (.inr hid),fun _ _=>rfl⟩
  ·simp only [Option.some.injEq,Prod.mk.injEq] at h;obtain ⟨rfl,rfl⟩:=h;exact ⟨_,rfl,kJ h1 h2 (by simp [dZ]) fun id hid=>hag id (.inr hid)⟩
  ·simp at h
 by_cases ha:∃ sz b y z,x= .kO sz b y z
 ·obtain ⟨sz,b,y,z,rfl⟩:=ha;simp only [eW] at h ⊢
  cases nS:evalW G t H pl (.app sz b y z) with
  | none=>rw [nS] at h;simp [eA] at h
  | some q=>
   obtain ⟨v1,H1⟩:=q;rw [nS] at h;obtain ⟨K1,k1,k2,k3⟩:=lC G cI (x:= .app sz b y z) (fun f args e=>by simp at e) nS cZ (fun e=>by simp [dZ] at e) hag;have Yx:evalW G t K pl (.app sz b y z)=some (v1,K1):=k1;rw [Yx];exact qE h k2 k3
 by_cases hb:∃ sz z len parts,x= .lQ sz z len parts
 ·obtain ⟨sz,z,len,parts,rfl⟩:=hb;simp only [eW] at h ⊢
  cases nS:evalW G t H pl (.sY sz z len parts) with
  | none=>rw [nS] at h;simp [eA] at h
  | some q=>
   obtain ⟨v1,H1⟩:=q;rw [nS] at h;obtain ⟨K1,k1,k2,k3⟩:=lC G cI (x:= .sY sz z len parts) (fun f args e=>by simp at e) nS cZ (fun e=>by simp [dZ] at e) hag;have Yx:evalW G t K pl (.sY sz z len parts)=some (v1,K1):=k1;rw [Yx];exact qE h k2 k3
 by_cases hc:∃ f args,x= .call f args
 ·obtain ⟨f,args,rfl⟩:=hc;simp only [eW] at h ⊢;split at h
  case isFalse=>simp at h
  rename_i hok;have US:∀ id∈(args.map (·.ev G t)).flatMap refs,K[id]?=H[id]?:=fun id hid=>hag id (.inl (by simpa [dZ] using hid))
  have ae9:kV K (args.map (·.ev G t))=true:=by unfold kV at hok ⊢;rw [jV US];exact hok
  rw [if_pos ae9];have h':bI eF cI j6 f (args.map (·.ev G t)) H=some (v,H'):=h;obtain ⟨k1,rfl⟩:=Cm cI hok US h';exact ⟨K,k1,fun id hid=>by simp [dZ] at hid,fun _ _=>rfl⟩
 ·have e:∀ L,eW G cI pl x t L=evalOp G eF cI j6 pl x t L:=fun L=>by
   cases x<;>first | rfl | exact (hm ⟨_,_,rfl⟩).elim | exact (hc ⟨_,_,rfl⟩).elim | exact (ha ⟨_,_,_,_,rfl⟩).elim | exact (hb ⟨_,_,_,_,rfl⟩).elim
  rw [e] at h;obtain ⟨K',k1,k2⟩:=lC G cI (fun f args e=>hc ⟨f,args,e⟩) h cZ hall hag;exact ⟨K',by rw [e];exact k1,k2⟩
theorem Co {t t':List AV} {H:List Obj} {x:RO} (pl:Nat) (h:∀ r∈x.ops,r.ev G t=r.ev G t'):eW G cI pl x t H=eW G cI pl x t' H:=by
 by_cases hm:∃ f args,x= .qH f args
 ·obtain ⟨f,args,rfl⟩:=hm;simp only [eW];rw [de (l:=args) (f:=fun r=>r.ev G t) (g:=fun r=>r.ev G t') h]
 by_cases ha:∃ sz b y z,x= .kO sz b y z
 ·obtain ⟨sz,b,y,z,rfl⟩:=ha;have hy:=h y (by simp [RO.ops]);have hz:=h z (by simp [RO.ops]);simp only [eW,evalW,hy,hz]
 by_cases hb:∃ sz z len parts,x= .lQ sz z len parts
 ·obtain ⟨sz,z,len,parts,rfl⟩:=hb;simp only [eW];rw [su G (x:= .sY sz z len parts) (t:=t) (t':=t') fun r hr=>h r hr]
 by_cases hc:∃ f args,x= .call f args
 ·obtain ⟨f,args,rfl⟩:=hc;have:=gu (H:=H) G cI eF j6 pl h;simp only [eW];rw [de (l:=args) (f:=fun r=>r.ev G t) (g:=fun r=>r.ev G t') h];split
  ·exact this
  ·rfl
 ·have e:∀ s,eW G cI pl x s H=evalOp G eF cI j6 pl x s H:=fun s=>by
   cases x<;>first | rfl | exact (hm ⟨_,_,rfl⟩).elim | exact (hc ⟨_,_,rfl⟩).elim | exact (ha ⟨_,_,_,_,rfl⟩).elim | exact (hb ⟨_,_,_,_,rfl⟩).elim
  rw [e,e];exact gu G cI eF j6 pl h
theorem DW {H K:List Obj} {pl:Nat} {x:RO} {t:List AV} (hag:∀ id,id∈(dZ G t pl x).r\/id∈(dZ G t pl x).w->K[id]?=H[id]?) (h:qO H pl x=true):qO K pl x=true:=by
 cases ha:x.dA with
 | false=>simp [qO,ha]
 | true=>
  have h1:=k8 h ha;have h2:pl∈(dZ G t pl x).w:=by cases x<;>simp [RO.dA] at ha<;>simp [dZ]
  simp only [qO,ha,Bool.not_true,Bool.false_or,hag pl (.inr h2),h1]
theorem oX {o:bD} {t:List AV} {H H' K:List Obj} {pl:Nat} {v:AV} {f:FP} (h:pq G cI pl o t H=some (v,H',f))
 (hall:f.all=true->K=H) (hag:∀ id,id∈f.r\/id∈f.w->K[id]?=H[id]?):
 ∃ K',pq G cI pl o t K=some (v,K',f)/\(∀ id∈f.w,K'[id]?=H'[id]?)/\∀ id,id ∉ f.w->K'[id]?=K[id]?:=by
 unfold pq at h ⊢;split at h
 ·split at h
  case isFalse=>simp at h
  rename_i cZ;split at h
  case h_2=>simp at h
  rename_i u H2 he;simp only [Option.some.injEq,Prod.mk.injEq] at h;obtain ⟨rfl,rfl,rfl⟩:=h;obtain ⟨K',k1,k2,k3⟩:=Cn G cI he cZ hall hag;refine ⟨K',?_,k2,k3⟩;rw [if_pos (DW G hag cZ)];rw [k1]
 ·simp only [Option.some.injEq,Prod.mk.injEq] at h;obtain ⟨rfl,rfl,rfl⟩:=h;exact ⟨K,rfl,fun id hid=>by simp at hid,fun _ _=>rfl⟩
 ·simp at h
theorem yo {o:bD} {t:List AV} {H H':List Obj} {pl:Nat} {v:AV} {f:FP} (h:pq G cI pl o t H=some (v,H',f)):
 ∀ id,id ∉ f.w->H'[id]?=H[id]?:=by
 obtain ⟨K',k1,_,k3⟩:=oX G cI h (K:=H) (fun _=>rfl) (fun _ _=>rfl);rw [h] at k1;simp only [Option.some.injEq,Prod.mk.injEq] at k1;obtain ⟨_,rfl,_⟩:=k1;exact k3
theorem wq {o:bD} {t:List AV} {H:List Obj} {pl:Nat} {d:Option Nat} {v:AV} (h:jG d (cB o)=true):
 pq G cI pl o (cO t d v) H=pq G cI pl o t H:=by
 have hr:∀ s∈cB o,d≠some s:=by
  intro s hs hd;subst hd;simp only [jG,Bool.not_eq_true',List.contains_eq_mem] at h;simp [hs] at h
 unfold pq;have hw:want (cO t d v) o.guard=want t o.guard:=by
  cases hg:o.guard with
  | none=>rfl
  | some g=>
   obtain ⟨s,b⟩:=g;have:=hr s (by simp [cB,hg])
   cases d with
   | none=>rfl
   | some d=>
    have hne:d≠s:=fun e=>this (by rw [e])
    simp only [want,cO];rw [mR hne]
 rw [hw];have dP:∀ r∈o.op.ops,r.ev G (cO t d v)=r.ev G t:=fun r hm=>zo G fun s hs=>hr s (by simp [cB];exact .inr ⟨r,hm,hs⟩)
 cases want t o.guard with
 | none=>rfl
 | some b=>
  cases b with
  | false=>rfl
  | true=>
   have h1:eW G cI pl o.op (cO t d v) H=eW G cI pl o.op t H:=Co G cI pl dP;have h2:dZ G (cO t d v) pl o.op=dZ G t pl o.op:=by
    revert dP
    cases o.op<;>intro dP<;>simp only [dZ,RO.ops,List.mem_cons,List.not_mem_nil,or_false,forall_eq_or_imp,forall_eq,List.mem_append] at dP ⊢<;>(try rw [dP])<;>(try rw [dP.1])<;>(try rw [dP.2])<;>(try rw [dP.1])
    ·rw [de dP]
    ·rw [de dP.2]
    ·rw [de dP]
   dsimp only;rw [h1,h2]
theorem wu {a b:List Nat}:oC a b=true↔∀ x∈a,x ∉ b:=by
 simp [oC,List.all_eq_true]
theorem Wv {b0 ka kb:Nat} {a b:bD} {os:List (Nat×bD)} {t t':List AV} {H H':List Obj} {fs:List FP} {fa fb:FP} (hs:cT a b=true) (hd:eD fa fb=true)
 (h:fU G cI b0 ((ka,a)::(kb,b)::os) t H=some (t',H',fa::fb::fs)):
 fU G cI b0 ((kb,b)::(ka,a)::os) t H=some (t',H',fb::fa::fs):=by
 simp only [cT,Bool.and_eq_true] at hs;obtain ⟨⟨h1,h2⟩,h3⟩:=hs;simp only [eD,Bool.and_eq_true,wu] at hd;obtain ⟨⟨⟨⟨d1,d2⟩,d3⟩,d4⟩,d5⟩:=hd;rw [fU] at h;split at h
 case h_2=>simp at h
 rename_i v H1 f1 ha;split at h
 case h_2=>simp at h
 rename_i t1 H2 Xi hr;simp only [Option.some.injEq,Prod.mk.injEq,List.cons.injEq] at h;obtain ⟨rfl,rfl,rfl,rfl⟩:=h;rw [fU,wq G cI h1] at hr;split at hr
 case h_2=>simp at hr
 rename_i u H3 f2 hb;split at hr
 case h_2=>simp at hr
 rename_i t2 H4 fs2 GR;simp only [Option.some.injEq,Prod.mk.injEq,List.cons.injEq] at hr;obtain ⟨rfl,rfl,rfl,rfl⟩:=hr;have Yy:=yo G cI ha;have kb1:=yo G cI hb;obtain ⟨Hb,q1,q2,q3⟩:=oX G cI hb (K:=H) (fun hal=>by
  have hw:f1.w=[]:=by simpa [hal] using d5
  apply List.ext_getElem?;intro j;exact (Yy j (by rw [hw];simp)).symm) (fun id hid=>by
  refine (Yy id ?_).symm;rcases hid with hid | hid
  ·exact fun hm=>d1 id hm hid
  ·exact fun hm=>d2 id hm hid)
 obtain ⟨Hba,p1,p2,p3⟩:=oX G cI ha (K:=Hb) (fun hal=>by
  have hw:f2.w=[]:=by simpa [hal] using d4
  apply List.ext_getElem?;intro j;exact q3 j (by rw [hw];simp)) (fun id hid=>by
  refine q3 id ?_;rcases hid with hid | hid
  ·exact fun hm=>d3 id hm hid
  ·exact fun hm=>d2 id hid hm)
 have heq:Hba=H3:=by
  apply List.ext_getElem?
  intro j;by_cases Xr:j∈f1.w
  ·rw [p2 j Xr,kb1 j (d2 j Xr)]
  ·rw [p3 j Xr];by_cases Yz:j∈f2.w
   ·rw [q2 j Yz]
   ·rw [q3 j Yz,kb1 j Yz,Yy j Xr]
 subst heq;rw [fU,q1];dsimp only;rw [fU,wq G cI h2,p1];dsimp only;rw [<-rD h3,GR]
theorem SW {b0 ka:Nat} {a:bD} {fa:FP} {os:List (Nat×bD)} {t':List AV} {H':List Obj} {fs:List FP}:∀ (pre:List (Nat×bD)) (fp:List FP) (t:List AV) (H:List Obj),fp.length=pre.length->
 (∀ i (h1:i < pre.length) (h2:i < fp.length),cT pre[i].2 a=true/\eD fp[i] fa=true)->
 fU G cI b0 (pre++(ka,a)::os) t H=some (t',H',fp++fa::fs)->fU G cI b0 ((ka,a)::(pre++os)) t H=some (t',H',fa::(fp++fs)):=by
 intro pre;induction pre with
 | nil=>
  intro fp t H hl _ h;have:fp=[]:=by simpa using hl
  subst this;exact h
 | cons b pre ih=>
  intro fp t H hl hf h;obtain ⟨kb,b⟩:=b
  cases fp with
  | nil=>simp at hl
  | cons fb fp=>
   have h0:=hf 0 (by simp) (by simp);refine Wv G cI h0.1 h0.2 ?_;rw [List.cons_append,List.cons_append,fU] at h;rw [fU]
   cases hb:pq G cI (b0+kb) b t H with
   | none=>rw [hb] at h;simp at h
   | some x=>
    obtain ⟨v,H1,f1⟩:=x;rw [hb] at h;dsimp only at h ⊢;split at h
    case h_2=>simp at h
    rename_i t1 H2 Xi hr;simp only [Option.some.injEq,Prod.mk.injEq,List.cons.injEq] at h;obtain ⟨rfl,rfl,rfl,rfl⟩:=h;have:=ih fp _ _ (by simpa using hl) (fun i q1 q2=>hf (i+1) (by simpa using q1) (by simpa using q2)) hr;change (match fU G cI b0 ((ka,a)::(pre++os)) (cO t b.dst v) H1 with | some (t',TC,fs)=>some (t',TC,f1::fs) | none=>none)=_;rw [this];rfl
theorem Lj {b0:Nat} (at_:Nat->Nat×bD) (F:Nat->FP) {t':List AV} {H':List Obj}:∀ (π L:List Nat) (t:List AV) (H:List Obj),L.Perm π->L.Pairwise (· < ·)->
 π.Pairwise (fun a b=>b < a->cT (at_ b).2 (at_ a).2=true/\eD (F b) (F a)=true)->
 fU G cI b0 (L.map at_) t H=some (t',H',L.map F)->fU G cI b0 (π.map at_) t H=some (t',H',π.map F):=by
 intro π;induction π with
 | nil=>intro L t H hp _ _ h;rw [List.Perm.eq_nil hp] at h;exact h
 | cons i π ih=>
  intro L t H hp hs hπ h;obtain ⟨L1,L2,rfl⟩:=List.append_of_mem (hp.mem_iff.2 (by simp:i∈i::π));have hp':(L1++L2).Perm π:=(List.Perm.cons_inv ((List.perm_middle (a:=i)).symm.trans hp));rw [List.map_append,List.map_append,List.map_cons,List.map_cons] at h;have hlt:∀ b∈L1,b < i:=by
   intro b hb;exact (List.pairwise_append.1 hs).2.2 b hb i (by simp)
  have h2:=SW G cI (ka:=(at_ i).1) (a:=(at_ i).2) (fa:=F i) (os:=L2.map at_) (L1.map at_) (L1.map F) t H (by simp) (by
   intro j h1 h2;simp only [List.getElem_map];have hm:L1[j]'(by simpa using h1)∈L1:=List.getElem_mem _;exact (List.pairwise_cons.1 hπ).1 _ (hp'.mem_iff.1 (by simp [hm])) (hlt _ hm)) h
  rw [List.map_cons,List.map_cons];have hat:at_ i=((at_ i).1,(at_ i).2):=rfl;rw [hat,fU];rw [fU] at h2
  cases ha:pq G cI (b0+(at_ i).1) (at_ i).2 t H with
  | none=>rw [ha] at h2;simp at h2
  | some x=>
   obtain ⟨v,H1,f1⟩:=x;rw [ha] at h2;dsimp only at h2 ⊢;split at h2
   case h_2=>simp at h2
   rename_i t1 H2 Xi hr;simp only [Option.some.injEq,Prod.mk.injEq,List.cons.injEq] at h2;obtain ⟨rfl,rfl,rfl,rfl⟩:=h2;rw [ih (L1++L2) _ _ hp' (hs.sublist (by simp)) (List.pairwise_cons.1 hπ).2 (by rw [List.map_append,List.map_append];exact hr)]
theorem Cp {b0:Nat}:∀ (l:List (Nat×bD)) (t t':List AV) (H H':List Obj) (fs:List FP),fU G cI b0 l t H=some (t',H',fs)->fs.length=l.length:=by
 intro l;induction l with
 | nil=>intro t t' H H' fs h;simp [fU] at h;simp [<-h.2.2]
 | cons o l ih=>
  intro t t' H H' fs h;obtain ⟨k,o⟩:=o;rw [fU] at h;split at h
  case h_2=>simp at h
  split at h
  case h_2=>simp at h
  rename_i hr;simp only [Option.some.injEq,Prod.mk.injEq] at h;obtain ⟨_,_,rfl⟩:=h;simp [ih _ _ _ _ _ hr]
theorem GG {b0:Nat}:∀ (l:List (Nat×bD)) (t t':List AV) (H H':List Obj) (fs:List FP),fU G cI b0 l t H=some (t',H',fs)->
 ∀ i (h1:i < l.length) (h2:i < fs.length),(l[i].2.op.kind= .pure->fs[i]={})/\(l[i].2.op.kind≠ .write->fs[i].w=[])/\(l[i].2.op.kind= .write->fs[i].all=false)/\(l[i].2.op.kind= .read->fs[i].all=false):=by
 intro l;induction l with
 | nil=>intro t t' H H' fs _ i h1;simp at h1
 | cons o l ih=>
  intro t t' H H' fs h i h1 h2;obtain ⟨k,o⟩:=o;rw [fU] at h;split at h
  case h_2=>simp at h
  rename_i v H1 f ha;split at h
  case h_2=>simp at h
  rename_i hr;simp only [Option.some.injEq,Prod.mk.injEq] at h;obtain ⟨_,_,rfl⟩:=h
  cases i with
  | succ i=>exact ih _ _ _ _ _ hr i (by simpa using h1) (by simpa using h2)
  | zero=>
   simp only [List.getElem_cons_zero];unfold pq at ha;split at ha
   ·split at ha
    case isFalse=>simp at ha
    split at ha
    case h_2=>simp at ha
    simp only [Option.some.injEq,Prod.mk.injEq] at ha;obtain ⟨_,_,rfl⟩:=ha;refine ⟨fun hk=>zU G hk,fun hk=>?_,fun hk=>Li G hk,fun hk=>(zV G hk).2⟩
    cases hk':o.op.kind with
    | pure=>rw [zU G hk']
    | read=>exact (zV G hk').1
    | call=>exact zL G hk'
    | write=>exact (hk hk').elim
   ·simp only [Option.some.injEq,Prod.mk.injEq] at ha;obtain ⟨_,_,rfl⟩:=ha;exact ⟨fun _=>rfl,fun _=>rfl,fun _=>rfl,fun _=>rfl⟩
   ·simp at ha
theorem GH {a b:FP} (h:eD a b=true):eD b a=true:=by
 simp only [eD,Bool.and_eq_true,wu] at h ⊢;obtain ⟨⟨⟨⟨d1,d2⟩,d3⟩,d4⟩,d5⟩:=h;exact ⟨⟨⟨⟨d3,fun x hx hx'=>d2 x hx' hx⟩,d1⟩,d5⟩,d4⟩
theorem KV {b0:Nat} {ops:Array Oper} {l:List (Nat×bD)} {ps:List (Nat×Nat)} {π:List Nat} (ho:Ord ops l.length π)
 (hp:u0 (before ops).toList (l.map (·.2)) ps=true) {t t':List AV} {H H':List Obj} {fs:List FP}
 (h:fU G cI b0 l t H=some (t',H',fs)) (hps:fN fs ps=true):
 ∃ fs',fU G cI b0 (π.map fun i=>l.getD i (0,default)) t H=some (t',H',fs'):=by
 have hfl:=Cp G cI _ _ _ _ _ _ h;have wX:=GG G cI _ _ _ _ _ _ h;have e1:(List.range l.length).map (fun i=>l.getD i (0,default))=l:=by
  apply List.ext_getElem
  ·simp
  ·intro i h1 h2;simp at h1;simp [List.getD,h1]
 have e2:(List.range l.length).map (fun i=>fs.getD i {})=fs:=by
  apply List.ext_getElem
  ·simp [hfl]
  ·intro i h1 h2;simp at h1;simp [List.getD,h2]
 refine ⟨_,Lj G cI (fun i=>l.getD i (0,default)) (fun i=>fs.getD i {}) π (List.range l.length) t H ?_ ?_ ?_ (by rw [e1,e2];exact h)⟩
 ·refine (List.perm_ext_iff_of_nodup List.nodup_range ho.nodup).2 fun i=>?_
  rw [ho.mem,List.mem_range]
 ·exact List.pairwise_lt_range
 ·refine ho.pair.imp_of_mem fun {a b} ha hb hab hlt=>?_
  have sS:a < l.length:=(ho.mem a).1 ha;have yV:b < l.length:=by omega
  have h1:=List.all_eq_true.1 (List.all_eq_true.1 hp a (List.mem_range.2 (by simpa using sS))) b (List.mem_range.2 hlt);rw [List.getElem?_map,List.getElem?_map,List.getElem?_eq_getElem sS,List.getElem?_eq_getElem yV,hab] at h1;simp only [Bool.false_or,Option.map_some,Bool.and_eq_true,Bool.or_eq_true] at h1;obtain ⟨h1,h2⟩:=h1;have YA:a < fs.length:=by omega
  have YB:b < fs.length:=by omega
  simp only [List.getD,List.getElem?_eq_getElem sS,List.getElem?_eq_getElem yV,List.getElem?_eq_getElem YA,List.getElem?_eq_getElem YB,Option.getD_some];refine ⟨h1,?_⟩;obtain ⟨a1,a2,a3,a4⟩:=wX a sS YA;obtain ⟨b1,b2,b3,b4⟩:=wX b yV YB;rcases h2 with h2 | h2
  ·have empty:∀ (x:FP),eD {} x=true:=by intro x;simp [eD,oC]
   have empty':∀ (x:FP),eD x {}=true:=fun x=>GH (empty x)
   have rr:∀ (x y:FP),x.w=[]->y.w=[]->eD x y=true:=by intro x y hx hy;simp [eD,oC,hx,hy]
   cases hka:l[a].2.op.kind<;>cases hkb:l[b].2.op.kind<;>simp only [hka,hkb,kq] at h2 a1 a2 a3 a4 b1 b2 b3 b4;all_goals first
    | (exact absurd h2 Bool.false_ne_true)
    | (rw [a1 trivial];exact empty' _)
    | (rw [b1 trivial];exact empty _)
    | (exact rr _ _ (b2 Kind.noConfusion) (a2 Kind.noConfusion))
  ·have:=List.all_eq_true.1 hps (b,a) (by simpa using h2);simpa [List.getD,List.getElem?_eq_getElem YA,List.getElem?_eq_getElem YB] using this
theorem Cd {ops:Array Oper} {bz:List bD} {ps:List (Nat×Nat)} (hd:pU ops bz ps=true) (mixed:Bool) (τ:Nat):Ord ops ops.size (schedule mixed ops τ):=by
 simp only [pU,Bool.and_eq_true] at hd;obtain ⟨⟨⟨h1,h2⟩,h3⟩,_⟩:=hd;exact nB h1 h2 h3 mixed τ
theorem wQ {ops:Array Oper} {bz:List bD} {ps:List (Nat×Nat)} (hd:pU ops bz ps=true):u0 (before ops).toList bz ps=true:=by
 simp only [pU,Bool.and_eq_true] at hd;exact hd.2
end
end Go.Am
