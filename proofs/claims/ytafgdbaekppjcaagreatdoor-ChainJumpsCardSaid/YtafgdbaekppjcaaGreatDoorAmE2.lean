/- Parts of my machine and its laws, joined: AmE2 AmF. No condition. -/
import Derived.Test.YtafgdbaekppjcaaGreatDoorAmEx
import Derived.Laws.Sem
import Derived.Laws.Cells
import Derived.Laws.CopyRow
import Derived.Laws.Append
import Derived.Laws.StructEq
set_option linter.unusedSectionVars false
set_option linter.unusedVariables false
set_option linter.unusedSimpArgs false
section
namespace Go.Am
open Region
section
variable (G:Nat->List AV) (cI:CI)
theorem cO {H K:List Obj} {id:Nat} (h:K[id]?=H[id]?):aC K id=aC H id:=by unfold aC;rw [h]
theorem iC {H K:List Obj} {id:Nat} (h:K[id]?=H[id]?):cy K id=cy H id:=by unfold cy;rw [h]
theorem Cp {H K:List Obj} {n:Nat} {ag:Bool} {p:AV} (h:∀ id∈refs p,K[id]?=H[id]?):loadAt K n ag p=loadAt H n ag p:=by
 cases p<;>simp only [loadAt,refs,zba,forall_eq] at h ⊢;rw [cO h]
theorem G9 {H K:List Obj} {sz:Nat} {x i:AV} (h:∀ id∈refs x,K[id]?=H[id]?):jd K sz x i=jd H sz x i:=by
 cases x<;>cases i<;>simp only [jd,refs,zba,forall_eq] at h ⊢;rw [cO h]
theorem Kv {H K:List Obj} {sz:Nat} {x:AV} {lo hi:Option AV} (h:∀ id∈refs x,K[id]?=H[id]?):slc K sz x lo hi=slc H sz x lo hi:=by
 cases x<;>simp only [slc,refs,zba,forall_eq] at h ⊢;rw [cO h,iC h]
theorem He {H K:List Obj} {len sz:Nat} {x:AV} {lo hi:Option AV} (h:∀ id∈refs x,K[id]?=H[id]?):k8 K len sz x lo hi=k8 H len sz x lo hi:=by
 cases x<;>simp only [k8,refs,zba,forall_eq] at h ⊢;rw [cO h]
theorem uG {H K:List Obj} {x:AV} (h:∀ id∈refs x,K[id]?=H[id]?):isNil K x=isNil H x:=by
 cases x<;>simp only [isNil,refs,zba,forall_eq] at h ⊢;rw [cO h,iC h]
theorem Kw {H K:List Obj} {neg:Bool} {x y:AV} (h:∀ id∈refs x++refs y,K[id]?=H[id]?):AS K neg x y=AS H neg x y:=by
 have hx:isNil K x=isNil H x:=uG fun id hm=>h id (by simp [hm])
 have hy:isNil K y=isNil H y:=uG fun id hm=>h id (by simp [hm])
 cases y<;>cases x<;>simp only [AS,hx,hy]
theorem pF {H K:List Obj} {x:AV} (h:∀ id∈refs x,K[id]?=H[id]?):dz K x=dz H x:=by
 cases x<;>simp only [dz,fJ,refs,zba,forall_eq] at h ⊢;all_goals rw [cO h]
theorem E8 {t:List AV} {H K:List Obj} {pl:Nat} {x:RO} (h:∀ id∈(ez G t pl x).r,K[id]?=H[id]?):aO G t K x=aO G t H x:=by
 cases x<;>simp only [aO,ez] at h ⊢
 ·rw [Cp h]
 ·rw [Kw h]
 ·rw [G9 h]
 ·rw [Kv h]
 ·rw [He h]
theorem Ch {t:List AV} {pl:Nat} {x:RO} (h:x.kind= .pure):ez G t pl x={}:=by
 cases x<;>simp [RO.kind] at h<;>rfl
theorem Ci {t:List AV} {pl:Nat} {x:RO} (h:x.kind= .read):(ez G t pl x).w=[]/\(ez G t pl x).all=false:=by
 cases x<;>simp [RO.kind] at h<;>exact ⟨rfl,rfl⟩
theorem B7 {t:List AV} {pl:Nat} {x:RO} (h:x.kind= .call):(ez G t pl x).w=[]:=by
 cases x<;>simp [RO.kind] at h<;>rfl
theorem P2 {t:List AV} {pl:Nat} {x:RO} (h:x.kind= .write):(ez G t pl x).all=false:=by
 cases x<;>simp [RO.kind] at h<;>rfl
theorem tN (K:List Obj) (d:Nat):∀ xs:List AV,AV.aR 0 xs=true->ey (pk d K) xs=some xs
 | [],_=>rfl
 | x::xs,h=>by
  simp only [AV.aR,za0] at h;have h1:pk d K x=some x:=by cases d<;>simp [pk,AV.eN,h.1]
  simp only [ey,h1,tN K d xs h.2]
theorem E9 {H K:List Obj} {f:Nat} {args:List AV} {v:AV} {H':List Obj} (hf:AV.aR 0 args=true)
 (h:bJ eS cI kY f args H=some (v,H')):bJ eS cI kY f args K=some (v,K):=by
 unfold bJ at h ⊢;simp only [eS,za9,if_false,snaps,tN _ _ _ hf] at h ⊢;split at h
 ·split at h
  ·simp only [za2,za4] at h;rename_i h1;simp only [h1,if_true];simp [h.1]
  ·simp at h
 ·simp at h
theorem ke {H:List Obj} {pl:Nat} {o:Obj} (h:pl < H.length) (j:Nat):(putObj H pl o)[j]?=if j=pl then some o else H[j]?:=by
 unfold putObj;rw [if_pos h];by_cases hj:j=pl
 ·subst hj;simp [h]
 ·rw [za6 (fun e=>hj e.symm),if_neg hj]
theorem mI {H:List Obj} {pl:Nat} {x:RO} (h:sI H pl x=true) (ha:x.dP=true):H[pl]?=some .ew:=by
 simp only [sI,ha,zb1,zbN] at h;split at h
 ·assumption
 ·simp at h
theorem wN {H:List Obj} {pl:Nat} (h:H[pl]?=some .ew):pl < H.length:=by
 rcases zak pl H.length with e | e
 ·exact e
 ·rw [zao e] at h;simp at h
theorem mc {H K:List Obj} {pl:Nat} {o:Obj} {l:List Nat} (h1:H[pl]?=some .ew) (h2:K[pl]?=some .ew) (hl:pl∈l) (hag:∀ id∈l,K[id]?=H[id]?):
 (∀ id∈l,(putObj K pl o)[id]?=(putObj H pl o)[id]?)/\∀ id,id ∉ l->(putObj K pl o)[id]?=K[id]?:=by
 constructor
 ·intro id hid;rw [ke (wN h1),ke (wN h2),hag id hid]
 ·intro id hid;rw [ke (wN h2),if_neg (by rintro rfl;exact hid hl)]
theorem md {H K:List Obj} {i:Nat} {o:Obj} {l:List Nat} (hi:i < H.length) (hK:i < K.length) (hl:i∈l) (hag:∀ id∈l,K[id]?=H[id]?):
 (∀ id∈l,(K.set i o)[id]?=(H.set i o)[id]?)/\∀ id,id ∉ l->(K.set i o)[id]?=K[id]?:=by
 constructor
 ·intro id hid;by_cases h:id=i
  ·subst h;simp [hi,hK]
  ·rw [za6 (fun e=>h e.symm),za6 (fun e=>h e.symm),hag id hid]
 ·intro id hid;rw [za6 (by rintro rfl;exact hid hl)]
theorem oy {H:List Obj} {id:Nat} {r} (h:aC H id=some r):id < H.length:=by
 unfold aC at h;split at h
 ·rename_i h1;rcases zak id H.length with e | e
  ·exact e
  ·rw [zao e] at h1;simp at h1
 ·simp at h
theorem oc {H K:List Obj} {id:Nat} (h:K[id]?=H[id]?):gC K id=gC H id:=by unfold gC;rw [h]
theorem pG {H K:List Obj} {x:AV} (h:∀ id∈refs x,K[id]?=H[id]?):entries K x=entries H x:=by
 cases x<;>simp only [entries,refs,zba,forall_eq] at h ⊢;rw [oc h]
theorem Uq {H:List Obj} {id:Nat} {r} (h:gC H id=some r):id < H.length:=by
 unfold gC at h;split at h
 ·rename_i h1;rcases zak id H.length with e | e
  ·exact e
  ·rw [zao e] at h1;simp at h1
 ·simp at h
theorem Hf {H K H':List Obj} {k:CK} {m x v:AV} (h:gX H k m x v=some H') (hag:∀ id∈refs m,K[id]?=H[id]?):
 ∃ K',gX K k m x v=some K'/\(∀ id∈refs m,K'[id]?=H'[id]?)/\∀ id,id ∉ refs m->K'[id]?=K[id]?:=by
 cases m<;>simp only [gX] at h<;>try (simp at h;done)
 rename_i id;simp only [refs,zba,forall_eq] at hag ⊢;simp only [gX,oc hag];split at h
 case h_2=>simp at h
 rename_i es hl;have zm:gC K id=some es:=by rw [oc hag];exact hl
 have fr:=fun o=>md (l:=[id]) (o:=o) (Uq hl) (Uq zm) (by simp) (by simpa using hag)
 split at h
 ·injection h with h;subst h
  rename_i hf;exact ⟨_,rfl,(fr _).1 id (by simp),fun j hj=>(fr _).2 j (by simpa using hj)⟩
 ·rename_i hf;split at h
  case isFalse=>simp at h
  rename_i he;injection h with h;subst h
  rw [if_pos he];exact ⟨_,rfl,(fr _).1 id (by simp),fun j hj=>(fr _).2 j (by simpa using hj)⟩
 ·simp at h
theorem Kx {H K H':List Obj} {x v:AV} (h:uK H x=some (v,H')) (hag:∀ id∈refs x,K[id]?=H[id]?):
 ∃ K',uK K x=some (v,K')/\(∀ id∈refs x,K'[id]?=H'[id]?)/\∀ id,id ∉ refs x->K'[id]?=K[id]?:=by
 cases x<;>simp only [uK] at h<;>try (simp at h;done)
 rename_i id;simp only [refs,zba,forall_eq] at hag ⊢;simp only [uK,hag];split at h
 case h_2=>simp at h
 rename_i s pos hl;have lt:∀ L:List Obj,L[id]?=some (Obj.it s pos)->id < L.length:=fun L e=>by
  rcases zak id L.length with q | q
  ·exact q
  ·rw [zao q] at e;simp at e
 have fr:=fun o=>md (l:=[id]) (o:=o) (lt H hl) (lt K (by rw [hag];exact hl)) (by simp) (by simpa using hag)
 split at h
 ·rename_i hp;rw [if_pos hp];simp only [za2,za4] at h;obtain ⟨rfl,rfl⟩:=h;exact ⟨_,rfl,(fr _).1 id (by simp),fun j hj=>(fr _).2 j (by simpa using hj)⟩
 ·rename_i hp;rw [if_neg hp];simp only [za2,za4] at h;obtain ⟨rfl,rfl⟩:=h;exact ⟨K,rfl,hag,fun _ _=>rfl⟩
theorem zh {H K H':List Obj} {n:Nat} {a x:AV} (h:storeAt H n a x=some H') (hag:∀ id∈refs a,K[id]?=H[id]?):
 ∃ K',storeAt K n a x=some K'/\(∀ id∈refs a,K'[id]?=H'[id]?)/\∀ id,id ∉ refs a->K'[id]?=K[id]?:=by
 cases a<;>simp only [storeAt] at h<;>try (simp at h;done)
 rename_i id ext e o;simp only [refs,zba,forall_eq] at hag ⊢;split at h
 case h_2=>simp at h
 rename_i sz es hl;split at h
 case isFalse=>simp at h
 rename_i hc;split at h
 case h_2=>simp at h
 rename_i cs hcs;injection h with h;subst h
 have UT:aC K id=some (sz,es):=by rw [cO hag];exact hl
 obtain ⟨f1,f2⟩:=md (l:=[id]) (o:= .live (cy H id) sz (es.set e (putAt cs o x.cells))) (oy hl) (oy UT) (by simp) (by simpa using hag);refine ⟨K.set id (.live (cy H id) sz (es.set e (putAt cs o x.cells))),?_,f1 id (by simp),fun j hj=>f2 j (by simpa using hj)⟩;simp only [storeAt,UT,iC hag];rw [if_pos hc,hcs]
theorem Cq {H K H':List Obj} {pl sz bytes:Nat} {s x v:AV} (h:append H pl sz bytes s x=some (v,H')) (dg:H[pl]?=some .ew)
 (hag:∀ id,id∈refs x\/id∈pl::refs s->K[id]?=H[id]?):
 ∃ K',append K pl sz bytes s x=some (v,K')/\(∀ id∈pl::refs s,K'[id]?=H'[id]?)/\∀ id,id ∉ pl::refs s->K'[id]?=K[id]?:=by
 have hx:dz K x=dz H x:=pF fun id hm=>hag id (.inl hm)
 have Z9:K[pl]?=some .ew:=by rw [hag pl (.inr (by simp))];exact dg
 unfold append at h;split at h
 ·simp at h
 rename_i new hn;have hxk:dz K x=some new:=by rw [hx];exact hn
 split at h
 case isFalse=>simp at h
 rename_i hall;split at h
 ·split at h
  ·rename_i hnew;simp only [za2,za4] at h;obtain ⟨rfl,rfl⟩:=h;exact ⟨K,by simp [append,hxk,hnew],fun id hid=>hag id (.inr hid),fun _ _=>rfl⟩
  ·rename_i hnew;split at h
   case isFalse=>simp at h
   rename_i hb;simp only [za2,za4] at h;obtain ⟨rfl,rfl⟩:=h;obtain ⟨f1,f2⟩:=mc (o:= .live .norm sz new) (l:=pl::refs .bF) dg Z9 (by simp) (fun id hid=>hag id (.inr hid));exact ⟨_,by simp only [append,hxk];rw [if_pos hall,if_neg hnew,if_pos hb],f1,f2⟩
 ·rename_i id ext off len;split at h
  case h_2=>simp at h
  rename_i sz' es hl;split at h
  case isFalse=>simp at h
  rename_i hc;have hid:K[id]?=H[id]?:=hag id (.inr (by simp [refs]));have UT:aC K id=some (sz',es):=by rw [cO hid];exact hl
  split at h
  ·rename_i hg;simp only [za2,za4] at h;obtain ⟨rfl,rfl⟩:=h;obtain ⟨f1,f2⟩:=md (l:=pl::refs (.own id ext off len)) (o:= .live (cy H id) sz (es++new)) (oy hl) (oy UT) (by simp [refs]) (fun j hj=>hag j (.inr hj));refine ⟨K.set id (.live (cy H id) sz (es++new)),?_,f1,f2⟩;simp only [append,hxk,UT,iC hid];rw [if_pos hall,if_pos hc,if_pos hg]
  ·rename_i hg;split at h
   case h_2=>simp at h
   rename_i fl hfl;split at h
   case isFalse=>simp at h
   rename_i hq;simp only [za2,za4] at h;obtain ⟨rfl,rfl⟩:=h;obtain ⟨f1,f2⟩:=md (l:=pl::refs (.own id ext off len)) (o:= .live fl sz es) (oy hl) (oy UT) (by simp [refs]) (fun j hj=>hag j (.inr hj));have hne:id≠pl:=by omega
   have Rh:(H.set id (.live fl sz es))[pl]?=some .ew:=by rw [za6 hne];exact dg
   have abL:(K.set id (.live fl sz es))[pl]?=some .ew:=by rw [za6 hne];exact Z9
   obtain ⟨g1,g2⟩:=mc (o:= .live .ch sz (es++new)) (l:=pl::refs (.own id ext off len)) Rh abL (by simp) f1;refine ⟨_,?_,g1,fun j hj=>by rw [g2 j hj,f2 j hj]⟩;simp only [append,hxk,UT,iC hid];rw [if_pos hall,if_pos hc,if_neg hg,hfl];dsimp only;rw [if_pos hq]
 ·simp at h
theorem AH {f g:AV->Option AV} (hfg:∀ x,x.bD 0=true->f x=g x):∀ L:List AV,AV.aR 0 L=true->ey f L=ey g L
 | [],_=>rfl
 | x::xs,h=>by
  simp only [AV.aR,za0] at h;simp only [ey,hfg x h.1,AH hfg xs h.2]
theorem yE {f g:AV->Option AV} (hfg:∀ x,x.bD 0=true->f x=g x):∀ L:List (List AV),AV.bO 0 L=true->gB f L=gB g L
 | [],_=>rfl
 | x::xs,h=>by
  simp only [AV.bO,za0] at h;simp only [gB,AH hfg x h.1,yE hfg xs h.2]
theorem Jm (H K:List Obj) (d:Nat) (x:AV) (h:x.bD 0=true):pk d K x=pk d H x:=by
 cases d<;>simp [pk,AV.eN,h]
theorem uH {H K:List Obj} {x:AV} (h:∀ id∈jH x,K[id]?=H[id]?):iK K x=iK H x:=by
 unfold iK
 cases x<;>try rfl
 rename_i id ext off len;simp only [h id (by simp [jH])]
theorem EC {H K:List Obj} {x:AV} (h:∀ id∈jH x,K[id]?=H[id]?) (hl:iK H x=true) (d:Nat):pk (d+1) K x=pk (d+1) H x:=by
 unfold iK at hl
 cases hb:x.bD 0 with
 | true=>exact Jm H K _ x hb
 | false=>
  rw [hb,zbN] at hl;split at hl
  case h_2=>cases hl
  rename_i id ext off len;split at hl
  case h_2=>cases hl
  rename_i fl sz es hH;have h1:=h id (by simp [jH]);rw [hH] at h1;simp only [pk,AV.eN,hb,aC,cy,h1,hH,za9,if_false];rw [yE (fun x hx=>Jm H K d x hx) _ hl]
theorem AI {H K:List Obj} (d:Nat):∀ cs:List AV,(∀ id∈cs.flatMap jH,K[id]?=H[id]?)->cs.all (iK H)=true->ey (pk (d+1) K) cs=ey (pk (d+1) H) cs
 | [],_,_=>rfl
 | x::cs,h,hl=>by
  rw [zbI,za0] at hl;simp only [ey,EC (x:=x) (fun id hid=>h id (by simp [hid])) hl.1 d,AI d cs (fun id hid=>h id (by simp only [zb0,zaZ];exact .inr hid)) hl.2]
theorem AJ {H K:List Obj}:∀ cs:List AV,(∀ id∈cs.flatMap jH,K[id]?=H[id]?)->cs.all (iK K)=cs.all (iK H)
 | [],_=>rfl
 | x::cs,h=>by
  rw [zbI,zbI,uH (x:=x) fun id hid=>h id (by simp [hid]),AJ cs fun id hid=>h id (by simp only [zb0,zaZ];exact .inr hid)]
theorem Fa {H K:List Obj} {x:AV} (h:∀ id∈refs x,K[id]?=H[id]?):qV K x=qV H x:=by
 unfold qV;split
 ·rfl
 ·rename_i hb
  cases x<;>try rfl
  ·rename_i id ext off len;dsimp only;have h':∀ i∈jH (.own id ext off len),K[i]?=H[i]?:=fun i hi=>h i (by simpa [refs,jH] using hi)
   rw [uH h'];split
   ·rename_i hl;exact EC h' hl 5
   ·rfl
  ·rename_i cs;have h':∀ id∈cs.flatMap jH,K[id]?=H[id]?:=fun id hid=>h id (by simpa only [refs] using hid)
   dsimp only;rw [AJ cs h'];split
   ·rename_i hl;have key:∀ J:List Obj,pk 6 J (.agg cs)=(match ey (pk 5 J) cs with | some l=>some (.agg l) | none=>none):=fun J=>by
     rw [pk,if_neg (show ¬ AV.eN (.agg cs)=true from hb)]
     cases ey (pk 5 J) cs<;>rfl
    rw [key,key,AI 4 cs h' hl]
   ·rfl
theorem kS {H K:List Obj}:∀ {xs:List AV},(∀ id∈xs.flatMap refs,K[id]?=H[id]?)->kC K xs=kC H xs
 | [],_=>rfl
 | x::xs,h=>by
  simp only [kC];rw [Fa (x:=x) fun id hid=>h id (by simp [hid]),kS (xs:=xs) fun id hid=>h id (by simp only [zb0,zaZ];exact .inr hid)]
theorem kR {H:List Obj}:∀ {xs ys:List AV},kC H xs=some ys->snaps H xs=some ys
 | [],ys,h=>by simpa [kC,snaps,ey] using h
 | x::xs,ys,h=>by
  simp only [kC] at h;split at h
  case h_2=>simp at h
  rename_i y r h1 h2;simp only [za2] at h;subst h;have h3:=kR h2;have h4:pk 6 H x=some y:=by
   unfold qV at h1;split at h1
   ·rename_i hb;injection h1 with h1;subst h1
    simp [pk,AV.eN,hb]
   ·split at h1
    ·split at h1
     ·exact h1
     ·simp at h1
    ·split at h1
     ·exact h1
     ·simp at h1
    ·simp at h1
  unfold snaps at h3 ⊢;simp only [ey,h4,h3]
theorem Fb {H K:List Obj} {f:Nat} {args:List AV} {v:AV} {H':List Obj} (hok:mC H args=true) (hag:∀ id∈args.flatMap refs,K[id]?=H[id]?)
 (h:bJ eS cI kY f args H=some (v,H')):bJ eS cI kY f args K=some (v,K)/\H'=H:=by
 unfold mC at hok
 cases hl:kC H args with
 | none=>rw [hl] at hok;simp at hok
 | some ys=>
  have h1:=kR hl;have h2:snaps K args=some ys:=kR (by rw [kS hag];exact hl);unfold bJ at h ⊢;simp only [eS,za9,if_false,h1,h2] at h ⊢;split at h
  case h_2=>simp at h
  split at h
  case isFalse=>simp at h
  rename_i hc;simp only [za2,za4] at h;obtain ⟨rfl,rfl⟩:=h;exact ⟨by rw [if_pos hc],rfl⟩
theorem mR {x:RO} {t:List AV} {H H' K:List Obj} {pl:Nat} {v:AV} (hnc:∀ f args,x≠ .call f args) (h:evalOp G eS cI kY pl x t H=some (v,H')) (dg:sI H pl x=true)
 (hall:(ez G t pl x).all=true->K=H) (hag:∀ id,id∈(ez G t pl x).r\/id∈(ez G t pl x).w->K[id]?=H[id]?):
 ∃ K',evalOp G eS cI kY pl x t K=some (v,K')/\(∀ id∈(ez G t pl x).w,K'[id]?=H'[id]?)/\∀ id,id ∉ (ez G t pl x).w->K'[id]?=K[id]?:=by
 cases hk:x.kind with
 | pure=>
  unfold evalOp at h ⊢;rw [hk] at h ⊢;dsimp only at h ⊢;split at h
  case h_2=>simp at h
  rename_i u hu;simp only [za2,za4] at h;obtain ⟨rfl,rfl⟩:=h;rw [Ch G hk];exact ⟨K,by simp [hu],fun id hid=>by simp at hid,fun _ _=>rfl⟩
 | read=>
  unfold evalOp at h ⊢;rw [hk] at h ⊢;dsimp only at h ⊢;split at h
  case h_2=>simp at h
  rename_i u hu;simp only [za2,za4] at h;obtain ⟨rfl,rfl⟩:=h;have hKR:=E8 G (t:=t) (pl:=pl) (x:=x) (H:=H) (K:=K) fun id hid=>hag id (.inl hid)
  rw [(Ci G hk).1];exact ⟨K,by rw [hKR,hu],fun id hid=>by simp at hid,fun _ _=>rfl⟩
 | call=>
  rw [B7 G hk];refine ⟨K,?_,fun id hid=>by simp at hid,fun _ _=>rfl⟩;by_cases ha:(ez G t pl x).all=true
  ·rw [hall ha];have:=zX G cI (by rw [hk];simp) h;rw [h,this]
  ·have hff:∀ f args,AV.aR 0 args=true->bJ eS cI kY f args H=some (v,H')->bJ eS cI kY f args K=some (v,K):=fun f args hf hd=>E9 cI hf hd
   unfold evalOp at h ⊢;rw [hk] at h ⊢;dsimp only at h ⊢
   cases x with
   | call f args=>exact (hnc _ _ rfl).elim
   | gf fx args=>
    simp only [ez] at ha h ⊢;split at h
    case h_3=>simp [kY] at h
    case h_4=>simp at h
    case h_2=>
     rename_i f cap KW;rw [KW] at ha;simp only [Bool.not_eq_true,Bool.not_eq_false',za0,AV.bD] at ha;refine hff _ _ ?_ h;have app:∀ (a b:List AV),AV.aR 0 a=true->AV.aR 0 b=true->AV.aR 0 (a++b)=true:=by
      intro a b ha hb;induction a with
      | nil=>exact hb
      | cons y a ih=>simp only [AV.aR,za0,zaM] at ha ⊢;exact ⟨ha.1,ih ha.2⟩
     exact app _ _ ha.1 ha.2
    rename_i f cap KW;rw [KW] at ha;simp only [Bool.not_eq_true,Bool.not_eq_false',za0,AV.bD] at ha;refine hff _ _ ?_ h;have app:∀ (a b:List AV),AV.aR 0 a=true->AV.aR 0 b=true->AV.aR 0 (a++b)=true:=by
     intro a b ha hb;induction a with
     | nil=>exact hb
     | cons y a ih=>simp only [AV.aR,za0,zaM] at ha ⊢;exact ⟨ha.1,ih ha.2⟩
    exact app _ _ ha.2 ha.1
   | _=>simp [RO.kind] at hk
 | write=>
  unfold evalOp at h ⊢;rw [hk] at h ⊢;dsimp only at h ⊢;have alloc:∀ (o:Obj),x.dP=true->(ez G t pl x).w=[pl]->
   (∀ id∈(ez G t pl x).w,(putObj K pl o)[id]?=(putObj H pl o)[id]?)/\∀ id,id ∉ (ez G t pl x).w->(putObj K pl o)[id]?=K[id]?:=by
   intro o ha hw;have h1:=mI dg ha;refine mc h1 ?_ (by rw [hw];simp) fun id hid=>hag id (.inr hid)
   rw [hag pl (.inr (by rw [hw];simp))];exact h1
  cases x with
  | box y=>
   simp only [evalW] at h ⊢;split at h
   case isFalse=>simp at h
   simp only [za2,za4] at h;obtain ⟨rfl,rfl⟩:=h;exact ⟨_,by rw [if_pos (by assumption)],alloc _ rfl rfl⟩
  | alloc z=>
   simp only [evalW] at h ⊢;split at h
   case isFalse=>simp at h
   simp only [za2,za4] at h;obtain ⟨rfl,rfl⟩:=h;exact ⟨_,by rw [if_pos (by assumption)],alloc _ rfl rfl⟩
  | u0 sz z len parts=>
   simp only [evalW] at h ⊢;split at h
   case isFalse=>simp at h
   rename_i hc;rw [if_pos hc];split at h
   case h_2=>simp at h
   rename_i es oR;simp only [za2,za4] at h;obtain ⟨rfl,rfl⟩:=h;exact ⟨_,rfl,alloc _ rfl rfl⟩
  | Hr sz z bytes l cp=>
   simp only [evalW] at h ⊢;split at h
   case h_2=>simp at h
   split at h
   case isFalse=>simp at h
   rename_i hc;rw [if_pos hc];simp only [za2,za4] at h;obtain ⟨rfl,rfl⟩:=h;exact ⟨_,rfl,alloc _ rfl rfl⟩
  | A5 z len parts=>
   simp only [evalW] at h ⊢;split at h
   case isFalse=>simp at h
   rename_i hc;rw [if_pos hc];split at h
   case h_2=>simp at h
   rename_i es oR;split at h
   case isFalse=>simp at h
   rename_i hb;rw [if_pos hb];simp only [za2,za4] at h;obtain ⟨rfl,rfl⟩:=h;exact ⟨K,rfl,fun id hid=>hag id (.inr hid),fun _ _=>rfl⟩
  | sH sz z bytes l cp=>
   simp only [evalW] at h ⊢;split at h
   case h_2=>simp at h
   split at h
   case isFalse=>simp at h
   rename_i hc;rw [if_pos hc];simp only [za2,za4] at h;obtain ⟨rfl,rfl⟩:=h;exact ⟨_,rfl,alloc _ rfl rfl⟩
  | store n a y=>
   simp only [evalW] at h ⊢;split at h
   case h_2=>simp at h
   rename_i H2 hs;simp only [za2,za4] at h;obtain ⟨rfl,rfl⟩:=h;obtain ⟨K',k1,k2,k3⟩:=zh hs fun id hid=>hag id (.inr hid)
   exact ⟨K',by rw [k1],k2,k3⟩
  | app sz bytes s y=>
   simp only [evalW] at h ⊢;exact Cq h (mI dg rfl) fun id hid=>hag id hid
  | bad=>simp [evalW] at h
  | iD f args=>simp [evalW] at h
  | mo sz bytes s y=>simp [evalW] at h
  | m8 sz z len parts=>simp [evalW] at h
  | Js=>
   simp only [evalW,za2,za4] at h ⊢;obtain ⟨rfl,rfl⟩:=h;exact ⟨_,⟨rfl,rfl⟩,alloc _ rfl rfl⟩
  | Fh y=>
   simp only [evalW] at h ⊢;split at h
   case h_2=>simp at h
   simp only [za2,za4] at h;obtain ⟨rfl,rfl⟩:=h;exact ⟨_,rfl,alloc _ rfl rfl⟩
  | gX k m x v=>
   simp only [evalW] at h ⊢;split at h
   case h_2=>simp at h
   rename_i H2 hs;simp only [za2,za4] at h;obtain ⟨rfl,rfl⟩:=h;obtain ⟨K',k1,k2,k3⟩:=Hf hs fun id hid=>hag id (.inr hid)
   exact ⟨K',by rw [k1],k2,k3⟩
  | uK y=>
   simp only [evalW] at h ⊢;exact Kx h fun id hid=>hag id (.inr hid)
  | gY k z ok m x=>
   simp only [evalW] at h ⊢;have e:∀ L:List Obj,entries L (m.ev G t)=entries H (m.ev G t)->Am.gY L k z ok (m.ev G t) (x.ev G t)=Am.gY H k z ok (m.ev G t) (x.ev G t):=fun L e=>by unfold Am.gY;rw [e]
   rw [e K (pG fun id hid=>hag id (.inl hid))];split at h
   case h_2=>simp at h
   rename_i hs;simp only [za2,za4] at h;obtain ⟨rfl,rfl⟩:=h;exact ⟨K,rfl,fun id hid=>hag id (.inr hid),fun _ _=>rfl⟩
  | jv m=>
   simp only [evalW] at h ⊢;have e:∀ L:List Obj,entries L (m.ev G t)=entries H (m.ev G t)->Am.jv L (m.ev G t)=Am.jv H (m.ev G t):=fun L e=>by unfold Am.jv;rw [e]
   rw [e K (pG fun id hid=>hag id (.inl hid))];split at h
   case h_2=>simp at h
   rename_i hs;simp only [za2,za4] at h;obtain ⟨rfl,rfl⟩:=h;exact ⟨K,rfl,fun id hid=>hag id (.inr hid),fun _ _=>rfl⟩
  | Cs m=>
   simp only [evalW] at h ⊢;have e:∀ L:List Obj,dz L (m.ev G t)=dz H (m.ev G t)->Am.Cs L (m.ev G t)=Am.Cs H (m.ev G t):=fun L e=>by unfold Am.Cs;rw [e]
   rw [e K (pF fun id hid=>hag id (.inl hid))];split at h
   case h_2=>simp at h
   rename_i hs;simp only [za2,za4] at h;obtain ⟨rfl,rfl⟩:=h;exact ⟨K,rfl,fun id hid=>hag id (.inr hid),fun _ _=>rfl⟩
  | _=>simp [RO.kind] at hk
theorem sC {w:List Nat} {v1 r:AV} {H1 H2 K1 K:List Obj} (h:eL w (some (v1,H1))=some (r,H2)) (k2:∀ id∈w,K1[id]?=H1[id]?) (k3:∀ id,id ∉ w->K1[id]?=K[id]?):
 ∃ K2,eL w (some (v1,K1))=some (r,K2)/\(∀ id∈w,K2[id]?=H2[id]?)/\∀ id,id ∉ w->K2[id]?=K[id]?:=by
 unfold eL at h ⊢;dsimp only at h ⊢;split at h
 case isFalse=>simp at h
 rename_i hin;rw [if_pos hin];have hw:∀ id∈refs v1,id∈w:=fun id hid=>by
  have:=zaf.1 hin id hid;simpa using this
 split at h
 case h_2=>simp at h
 rename_i r0 Ys hf;simp only [za2,za4] at h;obtain ⟨rfl,rfl⟩:=h;simp only [ko,List.getD_cons_zero] at hf ⊢;split at hf
 ·rename_i id ext off len;have hid:=hw id (by simp [refs]);have hg:=k2 id hid;rw [cO hg,iC hg];split at hf
  case h_2=>simp at hf
  rename_i CD es hl;try rw [hl]
  try dsimp only
  split at hf
  case isFalse=>simp at hf
  rename_i hc;try rw [if_pos hc]
  simp only [za2,St.mk.injEq,zbh,zaL,and_true] at hf;obtain ⟨rfl,rfl⟩:=hf;have hlt:id < H1.length:=by
   rcases zak id H1.length with e | e
   ·exact e
   ·simp [aC,zao e] at hl
  have ae1:id < K1.length:=by
   rcases zak id K1.length with e | e
   ·exact e
   ·rw [zao e] at hg;rw [za1 hlt] at hg;simp at hg
  refine ⟨_,rfl,fun i hi=>?_,fun i hi=>?_⟩
  ·by_cases e:id=i
   ·subst e;simp [hlt,ae1]
   ·rw [za6 e,za6 e];exact k2 i hi
  ·have e:id≠i:=by rintro rfl;exact hi hid
   rw [za6 e];exact k3 i hi
 ·simp only [za2,St.mk.injEq,zaL,and_true] at hf;obtain ⟨rfl,rfl⟩:=hf;refine ⟨K1,?_,k2,k3⟩
  cases v1<;>first | rfl | (rename_i hne;exact (hne _ _ _ _ rfl).elim)
theorem Fc {x:RO} {t:List AV} {H H' K:List Obj} {pl:Nat} {v:AV} (h:fB G cI pl x t H=some (v,H')) (dg:sI H pl x=true)
 (hall:(ez G t pl x).all=true->K=H) (hag:∀ id,id∈(ez G t pl x).r\/id∈(ez G t pl x).w->K[id]?=H[id]?):
 ∃ K',fB G cI pl x t K=some (v,K')/\(∀ id∈(ez G t pl x).w,K'[id]?=H'[id]?)/\∀ id,id ∉ (ez G t pl x).w->K'[id]?=K[id]?:=by
 by_cases hm:∃ f args,x= .iD f args
 ·obtain ⟨f,args,rfl⟩:=hm;simp only [fB,mkObj] at h ⊢;rw [kS (K:=K) (H:=H) fun id hid=>hag id (.inl (by simpa [ez] using hid))];split at h
  case h_2=>simp at h
  rename_i ys hys;split at h
  case h_2=>simp at h
  rename_i sz x hc;try rw [hc]
  split at h
  case isFalse=>simp at h
  rename_i hb;try rw [if_pos hb]
  have h1:=mI dg rfl;have h2:K[pl]?=some .ew:=by rw [hag pl (.inr (by simp [ez]))];exact h1
  unfold wj at h ⊢;split at h
  ·simp only [za2,za4] at h;obtain ⟨rfl,rfl⟩:=h;exact ⟨_,rfl,mc h1 h2 (by simp [ez]) fun id hid=>hag id (.inr hid)⟩
  ·simp only [za2,za4] at h;obtain ⟨rfl,rfl⟩:=h;exact ⟨K,rfl,fun id hid=>hag id (.inr hid),fun _ _=>rfl⟩
  ·simp only [za2,za4] at h;obtain ⟨rfl,rfl⟩:=h;exact ⟨_,rfl,mc h1 h2 (by simp [ez]) fun id hid=>hag id (.inr hid)⟩
  ·simp at h
 by_cases ha:∃ sz b y z,x= .mo sz b y z
 ·obtain ⟨sz,b,y,z,rfl⟩:=ha;simp only [fB] at h ⊢
  cases oZ:evalW G t H pl (.app sz b y z) with
  | none=>rw [oZ] at h;simp [eL] at h
  | some q=>
   obtain ⟨v1,H1⟩:=q;rw [oZ] at h;obtain ⟨K1,k1,k2,k3⟩:=mR G cI (x:= .app sz b y z) (fun f args e=>by simp at e) oZ dg (fun e=>by simp [ez] at e) hag;have k1':evalW G t K pl (.app sz b y z)=some (v1,K1):=k1;rw [k1'];exact sC h k2 k3
 by_cases hb:∃ sz z len parts,x= .m8 sz z len parts
 ·obtain ⟨sz,z,len,parts,rfl⟩:=hb;simp only [fB] at h ⊢
  cases oZ:evalW G t H pl (.u0 sz z len parts) with
  | none=>rw [oZ] at h;simp [eL] at h
  | some q=>
   obtain ⟨v1,H1⟩:=q;rw [oZ] at h;obtain ⟨K1,k1,k2,k3⟩:=mR G cI (x:= .u0 sz z len parts) (fun f args e=>by simp at e) oZ dg (fun e=>by simp [ez] at e) hag;have k1':evalW G t K pl (.u0 sz z len parts)=some (v1,K1):=k1;rw [k1'];exact sC h k2 k3
 by_cases hc:∃ f args,x= .call f args
 ·obtain ⟨f,args,rfl⟩:=hc;simp only [fB] at h ⊢;split at h
  case isFalse=>simp at h
  rename_i hok;have aaa:∀ id∈(args.map (·.ev G t)).flatMap refs,K[id]?=H[id]?:=fun id hid=>hag id (.inl (by simpa [ez] using hid))
  have ae2:mC K (args.map (·.ev G t))=true:=by unfold mC at hok ⊢;rw [kS aaa];exact hok
  rw [if_pos ae2];have h':bJ eS cI kY f (args.map (·.ev G t)) H=some (v,H'):=h;obtain ⟨k1,rfl⟩:=Fb cI hok aaa h';exact ⟨K,k1,fun id hid=>by simp [ez] at hid,fun _ _=>rfl⟩
 ·have e:∀ L,fB G cI pl x t L=evalOp G eS cI kY pl x t L:=fun L=>by
   cases x<;>first | rfl | exact (hm ⟨_,_,rfl⟩).elim | exact (hc ⟨_,_,rfl⟩).elim | exact (ha ⟨_,_,_,_,rfl⟩).elim | exact (hb ⟨_,_,_,_,rfl⟩).elim
  rw [e] at h;obtain ⟨K',k1,k2⟩:=mR G cI (fun f args e=>hc ⟨f,args,e⟩) h dg hall hag;exact ⟨K',by rw [e];exact k1,k2⟩
theorem Fe {t t':List AV} {H:List Obj} {x:RO} (pl:Nat) (h:∀ r∈x.ops,r.ev G t=r.ev G t'):fB G cI pl x t H=fB G cI pl x t' H:=by
 by_cases hm:∃ f args,x= .iD f args
 ·obtain ⟨f,args,rfl⟩:=hm;simp only [fB];rw [dw (l:=args) (f:=fun r=>r.ev G t) (g:=fun r=>r.ev G t') h]
 by_cases ha:∃ sz b y z,x= .mo sz b y z
 ·obtain ⟨sz,b,y,z,rfl⟩:=ha;have hy:=h y (by simp [RO.ops]);have hz:=h z (by simp [RO.ops]);simp only [fB,evalW,hy,hz]
 by_cases hb:∃ sz z len parts,x= .m8 sz z len parts
 ·obtain ⟨sz,z,len,parts,rfl⟩:=hb;simp only [fB];rw [uq G (x:= .u0 sz z len parts) (t:=t) (t':=t') fun r hr=>h r hr]
 by_cases hc:∃ f args,x= .call f args
 ·obtain ⟨f,args,rfl⟩:=hc;have:=gQ (H:=H) G cI eS kY pl h;simp only [fB];rw [dw (l:=args) (f:=fun r=>r.ev G t) (g:=fun r=>r.ev G t') h];split
  ·exact this
  ·rfl
 ·have e:∀ s,fB G cI pl x s H=evalOp G eS cI kY pl x s H:=fun s=>by
   cases x<;>first | rfl | exact (hm ⟨_,_,rfl⟩).elim | exact (hc ⟨_,_,rfl⟩).elim | exact (ha ⟨_,_,_,_,rfl⟩).elim | exact (hb ⟨_,_,_,_,rfl⟩).elim
  rw [e,e];exact gQ G cI eS kY pl h
theorem Hg {H K:List Obj} {pl:Nat} {x:RO} {t:List AV} (hag:∀ id,id∈(ez G t pl x).r\/id∈(ez G t pl x).w->K[id]?=H[id]?) (h:sI H pl x=true):sI K pl x=true:=by
 cases ha:x.dP with
 | false=>simp [sI,ha]
 | true=>
  have h1:=mI h ha;have h2:pl∈(ez G t pl x).w:=by cases x<;>simp [RO.dP] at ha<;>simp [ez]
  simp only [sI,ha,zb1,zbN,hag pl (.inr h2),h1]
theorem qz {o:bH} {t:List AV} {H H' K:List Obj} {pl:Nat} {v:AV} {f:FP} (h:qN G cI pl o t H=some (v,H',f))
 (hall:f.all=true->K=H) (hag:∀ id,id∈f.r\/id∈f.w->K[id]?=H[id]?):
 ∃ K',qN G cI pl o t K=some (v,K',f)/\(∀ id∈f.w,K'[id]?=H'[id]?)/\∀ id,id ∉ f.w->K'[id]?=K[id]?:=by
 unfold qN at h ⊢;split at h
 ·split at h
  case isFalse=>simp at h
  rename_i dg;split at h
  case h_2=>simp at h
  rename_i u H2 he;simp only [za2,za4] at h;obtain ⟨rfl,rfl,rfl⟩:=h;obtain ⟨K',k1,k2,k3⟩:=Fc G cI he dg hall hag;refine ⟨K',?_,k2,k3⟩;rw [if_pos (Hg G hag dg)];rw [k1]
 ·simp only [za2,za4] at h;obtain ⟨rfl,rfl,rfl⟩:=h;exact ⟨K,rfl,fun id hid=>by simp at hid,fun _ _=>rfl⟩
 ·simp at h
theorem AK {o:bH} {t:List AV} {H H':List Obj} {pl:Nat} {v:AV} {f:FP} (h:qN G cI pl o t H=some (v,H',f)):
 ∀ id,id ∉ f.w->H'[id]?=H[id]?:=by
 obtain ⟨K',k1,_,k3⟩:=qz G cI h (K:=H) (fun _=>rfl) (fun _ _=>rfl);rw [h] at k1;simp only [za2,za4] at k1;obtain ⟨_,rfl,_⟩:=k1;exact k3
theorem yF {o:bH} {t:List AV} {H:List Obj} {pl:Nat} {d:Option Nat} {v:AV} (h:kz d (cE o)=true):
 qN G cI pl o (cR t d v) H=qN G cI pl o t H:=by
 have hr:∀ s∈cE o,d≠some s:=by
  intro s hs hd;subst hd;simp only [kz,zbe,List.contains_eq_mem] at h;simp [hs] at h
 unfold qN;have hw:want (cR t d v) o.guard=want t o.guard:=by
  cases hg:o.guard with
  | none=>rfl
  | some g=>
   obtain ⟨s,b⟩:=g;have:=hr s (by simp [cE,hg])
   cases d with
   | none=>rfl
   | some d=>
    have hne:d≠s:=fun e=>this (by rw [e])
    simp only [want,cR];rw [nY hne]
 rw [hw];have ek:∀ r∈o.op.ops,r.ev G (cR t d v)=r.ev G t:=fun r hm=>BI G fun s hs=>hr s (by simp [cE];exact .inr ⟨r,hm,hs⟩)
 cases want t o.guard with
 | none=>rfl
 | some b=>
  cases b with
  | false=>rfl
  | true=>
   have h1:fB G cI pl o.op (cR t d v) H=fB G cI pl o.op t H:=Fe G cI pl ek;have h2:ez G (cR t d v) pl o.op=ez G t pl o.op:=by
    revert ek
    cases o.op<;>intro ek<;>simp only [ez,RO.ops,zad,zaV,or_false,forall_eq_or_imp,forall_eq,zaZ] at ek ⊢<;>(try rw [ek])<;>(try rw [ek.1])<;>(try rw [ek.2])<;>(try rw [ek.1])
    ·rw [dw ek]
    ·rw [dw ek.2]
    ·rw [dw ek]
   dsimp only;rw [h1,h2]
theorem yG {a b:List Nat}:p5 a b=true↔∀ x∈a,x ∉ b:=by
 simp [p5,zaf]
theorem abM {b0 ka kb:Nat} {a b:bH} {os:List (Nat×bH)} {t t':List AV} {H H':List Obj} {fs:List FP} {fa fb:FP} (hs:cU a b=true) (hd:eF fa fb=true)
 (h:gA G cI b0 ((ka,a)::(kb,b)::os) t H=some (t',H',fa::fb::fs)):
 gA G cI b0 ((kb,b)::(ka,a)::os) t H=some (t',H',fb::fa::fs):=by
 simp only [cU,za0] at hs;obtain ⟨⟨h1,h2⟩,h3⟩:=hs;simp only [eF,za0,yG] at hd;obtain ⟨⟨⟨⟨d1,d2⟩,d3⟩,d4⟩,d5⟩:=hd;rw [gA] at h;split at h
 case h_2=>simp at h
 rename_i v H1 f1 ha;split at h
 case h_2=>simp at h
 rename_i t1 H2 fs1 hr;simp only [za2,za4,zaL] at h;obtain ⟨rfl,rfl,rfl,rfl⟩:=h;rw [gA,yF G cI h1] at hr;split at hr
 case h_2=>simp at hr
 rename_i u H3 f2 hb;split at hr
 case h_2=>simp at hr
 rename_i t2 H4 fs2 KM;simp only [za2,za4,zaL] at hr;obtain ⟨rfl,rfl,rfl,rfl⟩:=hr;have ka1:=AK G cI ha;have kb1:=AK G cI hb;obtain ⟨Hb,q1,q2,q3⟩:=qz G cI hb (K:=H) (fun hal=>by
  have hw:f1.w=[]:=by simpa [hal] using d5
  apply zbL;intro j;exact (ka1 j (by rw [hw];simp)).symm) (fun id hid=>by
  refine (ka1 id ?_).symm;rcases hid with hid | hid
  ·exact fun hm=>d1 id hm hid
  ·exact fun hm=>d2 id hm hid)
 obtain ⟨Hba,p1,p2,p3⟩:=qz G cI ha (K:=Hb) (fun hal=>by
  have hw:f2.w=[]:=by simpa [hal] using d4
  apply zbL;intro j;exact q3 j (by rw [hw];simp)) (fun id hid=>by
  refine q3 id ?_;rcases hid with hid | hid
  ·exact fun hm=>d3 id hm hid
  ·exact fun hm=>d2 id hid hm)
 have heq:Hba=H3:=by
  apply zbL
  intro j;by_cases hja:j∈f1.w
  ·rw [p2 j hja,kb1 j (d2 j hja)]
  ·rw [p3 j hja];by_cases hjb:j∈f2.w
   ·rw [q2 j hjb]
   ·rw [q3 j hjb,kb1 j hjb,ka1 j hja]
 subst heq;rw [gA,q1];dsimp only;rw [gA,yF G cI h2,p1];dsimp only;rw [<-tu h3,KM]
theorem XS {b0 ka:Nat} {a:bH} {fa:FP} {os:List (Nat×bH)} {t':List AV} {H':List Obj} {fs:List FP}:∀ (pre:List (Nat×bH)) (fp:List FP) (t:List AV) (H:List Obj),fp.length=pre.length->
 (∀ i (h1:i < pre.length) (h2:i < fp.length),cU pre[i].2 a=true/\eF fp[i] fa=true)->
 gA G cI b0 (pre++(ka,a)::os) t H=some (t',H',fp++fa::fs)->gA G cI b0 ((ka,a)::(pre++os)) t H=some (t',H',fa::(fp++fs)):=by
 intro pre;induction pre with
 | nil=>
  intro fp t H hl _ h;have:fp=[]:=by simpa using hl
  subst this;exact h
 | cons b pre ih=>
  intro fp t H hl hf h;obtain ⟨kb,b⟩:=b
  cases fp with
  | nil=>simp at hl
  | cons fb fp=>
   have h0:=hf 0 (by simp) (by simp);refine abM G cI h0.1 h0.2 ?_;rw [zaM,zaM,gA] at h;rw [gA]
   cases hb:qN G cI (b0+kb) b t H with
   | none=>rw [hb] at h;simp at h
   | some x=>
    obtain ⟨v,H1,f1⟩:=x;rw [hb] at h;dsimp only at h ⊢;split at h
    case h_2=>simp at h
    rename_i t1 H2 fs1 hr;simp only [za2,za4,zaL] at h;obtain ⟨rfl,rfl,rfl,rfl⟩:=h;have:=ih fp _ _ (by simpa using hl) (fun i q1 q2=>hf (i+1) (by simpa using q1) (by simpa using q2)) hr;change (match gA G cI b0 ((ka,a)::(pre++os)) (cR t b.dst v) H1 with | some (t',YF,fs)=>some (t',YF,f1::fs) | none=>none)=_;rw [this];rfl
theorem P3 {b0:Nat} (at_:Nat->Nat×bH) (F:Nat->FP) {t':List AV} {H':List Obj}:∀ (π L:List Nat) (t:List AV) (H:List Obj),L.Perm π->L.Pairwise (· < ·)->
 π.Pairwise (fun a b=>b < a->cU (at_ b).2 (at_ a).2=true/\eF (F b) (F a)=true)->
 gA G cI b0 (L.map at_) t H=some (t',H',L.map F)->gA G cI b0 (π.map at_) t H=some (t',H',π.map F):=by
 intro π;induction π with
 | nil=>intro L t H hp _ _ h;rw [List.Perm.eq_nil hp] at h;exact h
 | cons i π ih=>
  intro L t H hp hs hπ h;obtain ⟨L1,L2,rfl⟩:=List.append_of_mem (hp.mem_iff.2 (by simp:i∈i::π));have hp':(L1++L2).Perm π:=(List.Perm.cons_inv ((List.perm_middle (a:=i)).symm.trans hp));rw [zal,zal,za5,za5] at h;have hlt:∀ b∈L1,b < i:=by
   intro b hb;exact (zbD.1 hs).2.2 b hb i (by simp)
  have h2:=XS G cI (ka:=(at_ i).1) (a:=(at_ i).2) (fa:=F i) (os:=L2.map at_) (L1.map at_) (L1.map F) t H (by simp) (by
   intro j h1 h2;simp only [zay];have hm:L1[j]'(by simpa using h1)∈L1:=zax _;exact (zaJ.1 hπ).1 _ (hp'.mem_iff.1 (by simp [hm])) (hlt _ hm)) h
  rw [za5,za5];have hat:at_ i=((at_ i).1,(at_ i).2):=rfl;rw [hat,gA];rw [gA] at h2
  cases ha:qN G cI (b0+(at_ i).1) (at_ i).2 t H with
  | none=>rw [ha] at h2;simp at h2
  | some x=>
   obtain ⟨v,H1,f1⟩:=x;rw [ha] at h2;dsimp only at h2 ⊢;split at h2
   case h_2=>simp at h2
   rename_i t1 H2 fs1 hr;simp only [za2,za4,zaL] at h2;obtain ⟨rfl,rfl,rfl,rfl⟩:=h2;rw [ih (L1++L2) _ _ hp' (hs.sublist (by simp)) (zaJ.1 hπ).2 (by rw [zal,zal];exact hr)]
theorem Ff {b0:Nat}:∀ (l:List (Nat×bH)) (t t':List AV) (H H':List Obj) (fs:List FP),gA G cI b0 l t H=some (t',H',fs)->fs.length=l.length:=by
 intro l;induction l with
 | nil=>intro t t' H H' fs h;simp [gA] at h;simp [<-h.2.2]
 | cons o l ih=>
  intro t t' H H' fs h;obtain ⟨k,o⟩:=o;rw [gA] at h;split at h
  case h_2=>simp at h
  split at h
  case h_2=>simp at h
  rename_i hr;simp only [za2,za4] at h;obtain ⟨_,_,rfl⟩:=h;simp [ih _ _ _ _ _ hr]
theorem Ky {b0:Nat}:∀ (l:List (Nat×bH)) (t t':List AV) (H H':List Obj) (fs:List FP),gA G cI b0 l t H=some (t',H',fs)->
 ∀ i (h1:i < l.length) (h2:i < fs.length),(l[i].2.op.kind= .pure->fs[i]={})/\(l[i].2.op.kind≠ .write->fs[i].w=[])/\(l[i].2.op.kind= .write->fs[i].all=false)/\(l[i].2.op.kind= .read->fs[i].all=false):=by
 intro l;induction l with
 | nil=>intro t t' H H' fs _ i h1;simp at h1
 | cons o l ih=>
  intro t t' H H' fs h i h1 h2;obtain ⟨k,o⟩:=o;rw [gA] at h;split at h
  case h_2=>simp at h
  rename_i v H1 f ha;split at h
  case h_2=>simp at h
  rename_i hr;simp only [za2,za4] at h;obtain ⟨_,_,rfl⟩:=h
  cases i with
  | succ i=>exact ih _ _ _ _ _ hr i (by simpa using h1) (by simpa using h2)
  | zero=>
   simp only [zaF];unfold qN at ha;split at ha
   ·split at ha
    case isFalse=>simp at ha
    split at ha
    case h_2=>simp at ha
    simp only [za2,za4] at ha;obtain ⟨_,_,rfl⟩:=ha;refine ⟨fun hk=>Ch G hk,fun hk=>?_,fun hk=>P2 G hk,fun hk=>(Ci G hk).2⟩
    cases hk':o.op.kind with
    | pure=>rw [Ch G hk']
    | read=>exact (Ci G hk').1
    | call=>exact B7 G hk'
    | write=>exact (hk hk').elim
   ·simp only [za2,za4] at ha;obtain ⟨_,_,rfl⟩:=ha;exact ⟨fun _=>rfl,fun _=>rfl,fun _=>rfl,fun _=>rfl⟩
   ·simp at ha
theorem Kz {a b:FP} (h:eF a b=true):eF b a=true:=by
 simp only [eF,za0,yG] at h ⊢;obtain ⟨⟨⟨⟨d1,d2⟩,d3⟩,d4⟩,d5⟩:=h;exact ⟨⟨⟨⟨d3,fun x hx hx'=>d2 x hx' hx⟩,d1⟩,d5⟩,d4⟩
theorem PF {b0:Nat} {ops:Array Oper} {l:List (Nat×bH)} {ps:List (Nat×Nat)} {π:List Nat} (ho:Ord ops l.length π)
 (hp:xx (before ops).toList (l.map (·.2)) ps=true) {t t':List AV} {H H':List Obj} {fs:List FP}
 (h:gA G cI b0 l t H=some (t',H',fs)) (hps:gm fs ps=true):
 ∃ fs',gA G cI b0 (π.map fun i=>l.getD i (0,default)) t H=some (t',H',fs'):=by
 have hfl:=Ff G cI _ _ _ _ _ _ h;have zw:=Ky G cI _ _ _ _ _ _ h;have e1:(List.range l.length).map (fun i=>l.getD i (0,default))=l:=by
  apply zb4
  ·simp
  ·intro i h1 h2;simp at h1;simp [List.getD,h1]
 have e2:(List.range l.length).map (fun i=>fs.getD i {})=fs:=by
  apply zb4
  ·simp [hfl]
  ·intro i h1 h2;simp at h1;simp [List.getD,h2]
 refine ⟨_,P3 G cI (fun i=>l.getD i (0,default)) (fun i=>fs.getD i {}) π (List.range l.length) t H ?_ ?_ ?_ (by rw [e1,e2];exact h)⟩
 ·refine (List.perm_ext_iff_of_nodup List.nodup_range ho.nodup).2 fun i=>?_
  rw [ho.mem,zac]
 ·exact List.pairwise_lt_range
 ·refine ho.pair.imp_of_mem fun {a b} ha hb hab hlt=>?_
  have uW:a < l.length:=(ho.mem a).1 ha;have Bj:b < l.length:=by omega
  have h1:=zaf.1 (zaf.1 hp a (zac.2 (by simpa using uW))) b (zac.2 hlt);rw [zav,zav,za1 uW,za1 Bj,hab] at h1;simp only [zbN,zaN,za0,zat] at h1;obtain ⟨h1,h2⟩:=h1;have haf:a < fs.length:=by omega
  have hbf:b < fs.length:=by omega
  simp only [List.getD,za1 uW,za1 Bj,za1 haf,za1 hbf,zaz];refine ⟨h1,?_⟩;obtain ⟨a1,a2,a3,a4⟩:=zw a uW haf;obtain ⟨b1,b2,b3,b4⟩:=zw b Bj hbf;rcases h2 with h2 | h2
  ·have empty:∀ (x:FP),eF {} x=true:=by intro x;simp [eF,p5]
   have empty':∀ (x:FP),eF x {}=true:=fun x=>Kz (empty x)
   have rr:∀ (x y:FP),x.w=[]->y.w=[]->eF x y=true:=by intro x y hx hy;simp [eF,p5,hx,hy]
   cases hka:l[a].2.op.kind<;>cases hkb:l[b].2.op.kind<;>simp only [hka,hkb,lJ] at h2 a1 a2 a3 a4 b1 b2 b3 b4;all_goals first
    | (exact absurd h2 Bool.false_ne_true)
    | (rw [a1 trivial];exact empty' _)
    | (rw [b1 trivial];exact empty _)
    | (exact rr _ _ (b2 Kind.noConfusion) (a2 Kind.noConfusion))
  ·have:=zaf.1 hps (b,a) (by simpa using h2);simpa [List.getD,za1 haf,za1 hbf] using this
theorem E2 {ops:Array Oper} {bE:List bH} {ps:List (Nat×Nat)} (hd:rB ops bE ps=true) (mixed:Bool) (τ:Nat):Ord ops ops.size (schedule mixed ops τ):=by
 simp only [rB,za0] at hd;obtain ⟨⟨⟨h1,h2⟩,h3⟩,_⟩:=hd;exact oK h1 h2 h3 mixed τ
theorem zf {ops:Array Oper} {bE:List bH} {ps:List (Nat×Nat)} (hd:rB ops bE ps=true):xx (before ops).toList bE ps=true:=by
 simp only [rB,za0] at hd;exact hd.2
end
end Go.Am
end
section
namespace Go.Am
structure Ctx where
 w:World
 O:Nat->Prop
 ι:Nat->Nat
 K:Nat->Nat
 H:List Obj
def Has (c:Ctx) (id:Nat):Prop:=id < c.H.length/\c.H[id]?≠some .ew
def OW (c:Ctx) (id ext off len:Nat) (v:Value):Prop:=
 Has c id/\(∃ a cap,v= .slice a len cap)/\∀ nl sz es,c.H[id]?=some (.live nl sz es)->ext<=es.length/\(ext=es.length->off+len<=ext/\
  ((nl= .nil/\es=[]/\v= .slice none 0 0)\/(¬(nl= .nil/\es=[])/\∃ cap,v= .slice (some ⟨c.ι id,off*sz,none⟩) len cap/\off+cap=c.K id)))
def PO (c:Ctx) (id ext e o:Nat) (v:Value):Prop:=
 Has c id/\∃ a:Addr,v= .pointer (some a)/\a.spot=none/\∀ nl sz es,c.H[id]?=some (.live nl sz es)->ext<=es.length/\(ext=es.length->a=⟨c.ι id,e*sz+o,none⟩)
def AO (c:Ctx) (id ext e o len:Nat) (v:Value):Prop:=
 Has c id/\∃ a:Addr,(∃ cap,v= .slice (some a) len cap/\len<=cap)/\a.spot=none/\∀ nl sz es,c.H[id]?=some (.live nl sz es)->ext<=es.length/\(ext=es.length->a=⟨c.ι id,e*sz+o,none⟩)
theorem cJ {n:Nat}:∀ {xs:List AV},AV.aR n xs=true->∀ i (hi:i < xs.length),xs[i].bD n=true
 | [],_,i,hi=>by simp at hi
 | x::xs,h,0,_=>by simp only [AV.aR,za0] at h;exact h.1
 | x::xs,h,i+1,hi=>by simp only [AV.aR,za0] at h;simpa using cJ h.2 i (by simpa using hi)
theorem iu {n:Nat}:∀ {xs:List (List AV)},AV.bO n xs=true->∀ i (hi:i < xs.length),AV.aR n xs[i]=true
 | [],_,i,hi=>by simp at hi
 | x::xs,h,0,_=>by simp only [AV.bO,za0] at h;exact h.1
 | x::xs,h,i+1,hi=>by simp only [AV.bO,za0] at h;simpa using iu h.2 i (by simpa using hi)
def SV (c:Ctx) (id b:Nat):Prop:=Has c id/\∀ o,c.H[id]?=some o->o.sp=true->b=c.ι id
inductive V (c:Ctx):AV->Value->Prop where
 | any (v:Value):V c .any v
 | bool (b:Bool):V c (.bool b) (.bool b)
 | int (k:IntKind) (n:Int):V c (.int k n) (.int k n)
 | str (s:List UInt8):V c (.str s) (.string ⟨s.toArray⟩)
 | gZ:V c .gZ (.pointer none)
 | bF:V c .bF (.slice none 0 0)
 | jw:V c .jw .nilFunc
 | pO:V c .pO (.map none)
 | fA (l b:Nat) (h:SV c l b):V c (.fA l) (.func (.yield b) #[] #[])
 | mp (l b:Nat) (h:SV c l b):V c (.mp l) (.map (some b))
 | qB (l b:Nat) (h:SV c l b):V c (.qB l) (.pointer (some ⟨b,0,none⟩))
 | nu:V c .nu .nilIface
 | CB:V c (.ro []) (.slice none 0 0)
 | ro (es:List (List AV)) (a:Addr) (cap sz:Nat) (vs:Nat->Nat->Value) (hb:∀ i j (hi:i < es.length) (hj:j < es[i].length),es[i][j].bD 0=true) (hcap:es.length<=cap)
  (h1:es≠[]->0 < sz->a.spot=none/\¬ c.O a.block) (h2:∀ i (hi:i < es.length),es[i].length=sz)
  (h3:∀ i j (hi:i < es.length),j < es[i].length->c.w.cell? ⟨a.block,a.off+i*sz+j,none⟩=some (vs i j))
  (h4:∀ i j (hi:i < es.length) (hj:j < es[i].length),V c es[i][j] (vs i j)):V c (.ro es) (.slice (some a) es.length cap)
 | bR (cs:List AV) (a:Addr) (vs:Nat->Value) (hb:∀ j (hj:j < cs.length),cs[j].bD 0=true) (h1:cs≠[]->a.spot=none/\¬ c.O a.block)
  (h3:∀ j,j < cs.length->c.w.cell? ⟨a.block,a.off+j,none⟩=some (vs j))
  (h4:∀ j (hj:j < cs.length),V c cs[j] (vs j)):V c (.bR cs) (.pointer (some a))
 | own (id ext off len:Nat) (v:Value) (h:OW c id ext off len v):V c (.own id ext off len) v
 | aJ (id ext e o:Nat) (v:Value) (h:PO c id ext e o v):V c (.aJ id ext e o) v
 | arr (id ext e o sz len:Nat) (v:Value) (h:AO c id ext e o len v):V c (.arr id ext e o sz len) v
 | agg (cs:List AV) (vs:Array Value) (hs:vs.size=cs.length) (h:∀ i (hi:i < cs.length) (hj:i < vs.size),V c cs[i] vs[i]):V c (.agg cs) (.agg vs)
 | aY (cs:List AV) (vs:Array Value) (hs:vs.size=cs.length) (h:∀ i (hi:i < cs.length) (hj:i < vs.size),V c cs[i] vs[i]):V c (.aY cs) (.tuple vs)
 | fn (f:Nat) (cap:List AV) (vs:Array Value) (hs:vs.size=cap.length) (h:∀ i (hi:i < cap.length) (hj:i < vs.size),V c cap[i] vs[i]):
  V c (.fn f cap) (.func (.func f) #[] vs)
 | eD (f:Nat) (cap:List AV) (vs:Array Value) (hs:vs.size=cap.length) (h:∀ i (hi:i < cap.length) (hj:i < vs.size),V c cap[i] vs[i]):
  V c (.eD f cap) (.func (.func f) vs #[])
theorem V.HB {c d:Ctx} (hcell:∀ (b o:Nat) (u:Value),¬ c.O b->c.w.cell? ⟨b,o,none⟩=some u->d.w.cell? ⟨b,o,none⟩=some u/\¬ d.O b)
 (hO:∀ id ext off len v,OW c id ext off len v->OW d id ext off len v)
 (hP:∀ id ext e o v,PO c id ext e o v->PO d id ext e o v)
 (hA:∀ id ext e o len v,AO c id ext e o len v->AO d id ext e o len v)
 (hS:∀ id b,SV c id b->SV d id b)
 {x:AV} {v:Value} (h:V c x v):V d x v:=by
 induction h with
 | any v=>exact .any v
 | bool b=>exact .bool b
 | int k n=>exact .int k n
 | str s=>exact .str s
 | gZ=>exact .gZ
 | bF=>exact .bF
 | jw=>exact .jw
 | pO=>exact .pO
 | fA l b h=>exact .fA l b (hS _ _ h)
 | mp l b h=>exact .mp l b (hS _ _ h)
 | qB l b h=>exact .qB l b (hS _ _ h)
 | nu=>exact .nu
 | CB=>exact .CB
 | ro es a cap sz vs hb hcap h1 h2 h3 h4 ih=>
  refine .ro es a cap sz vs hb hcap (fun hne hz=>⟨(h1 hne hz).1,?_⟩) h2 (fun i j hi hj=>?_) ih
  ·have h0:0 < es.length:=zb3.2 hne;have:=h3 0 0 h0 (by rw [h2 0 h0];omega);exact (hcell _ _ _ (h1 hne hz).2 this).2
  ·have hz:0 < sz:=by rw [h2 i hi] at hj;omega
   exact (hcell _ _ _ (h1 (by intro e;simp [e] at hi) hz).2 (h3 i j hi hj)).1
 | bR cs a vs hb h1 h3 h4 ih=>
  refine .bR cs a vs hb (fun hne=>⟨(h1 hne).1,?_⟩) (fun j hj=>?_) ih
  ·exact (hcell _ _ _ (h1 hne).2 (h3 0 (zb3.2 hne))).2
  ·exact (hcell _ _ _ (h1 (by intro e;simp [e] at hj)).2 (h3 j hj)).1
 | own id ext off len v h=>exact .own _ _ _ _ _ (hO _ _ _ _ _ h)
 | aJ id ext e o v h=>exact .aJ _ _ _ _ _ (hP _ _ _ _ _ h)
 | arr id ext e o sz len v h=>exact .arr _ _ _ _ _ _ _ (hA _ _ _ _ _ _ h)
 | agg cs vs hs _ ih=>exact .agg cs vs hs ih
 | aY cs vs hs _ ih=>exact .aY cs vs hs ih
 | fn f cap vs hs _ ih=>exact .fn f cap vs hs ih
 | eD f cap vs hs _ ih=>exact .eD f cap vs hs ih
theorem V.mono {c d:Ctx} (hw:∀ b,¬ c.O b->(c.w.heap[b]?).isSome->d.w.heap[b]?=c.w.heap[b]?/\¬ d.O b)
 (hO:∀ id ext off len v,OW c id ext off len v->OW d id ext off len v)
 (hP:∀ id ext e o v,PO c id ext e o v->PO d id ext e o v)
 (hA:∀ id ext e o len v,AO c id ext e o len v->AO d id ext e o len v)
 (hS:∀ id b,SV c id b->SV d id b)
 {x:AV} {v:Value} (h:V c x v):V d x v:=by
 refine V.HB ?_ hO hP hA hS h;have hcell:∀ (b o:Nat) (u:Value),¬ c.O b->c.w.cell? ⟨b,o,none⟩=some u->d.w.cell? ⟨b,o,none⟩=some u/\¬ d.O b:=by
  intro b o u hb hc;have hs:(c.w.heap[b]?).isSome:=by
   unfold World.cell? at hc
   cases h:c.w.heap[b]? with
   | none=>simp [h] at hc
   | some _=>rfl
  obtain ⟨e1,e2⟩:=hw b hb hs;exact ⟨by rw [<-hc];simp [World.cell?,e1],e2⟩
 exact hcell
end Go.Am
end
