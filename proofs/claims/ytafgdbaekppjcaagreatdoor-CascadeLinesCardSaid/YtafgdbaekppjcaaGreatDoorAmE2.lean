/- A region that draws its order, makes objects and writes: the abstract machine comes to the same state whatever is drawn. Condition: drawOkW, and footprints that do not touch. -/
import Derived.Test.YtafgdbaekppjcaaGreatDoorAmEx
set_option linter.unusedSectionVars false
set_option linter.unusedVariables false
set_option linter.unusedSimpArgs false
namespace Go.Am
open Region
section
variable (G:Nat→List AV) (cI:CI)
theorem getLive_congr {H K:List Obj} {id:Nat} (h:K[id]?=H[id]?):getLive K id=getLive H id:=by unfold getLive;rw [h]
theorem nlAt_congr {H K:List Obj} {id:Nat} (h:K[id]?=H[id]?):nlAt K id=nlAt H id:=by unfold nlAt;rw [h]
theorem loadAt_congr {H K:List Obj} {n:Nat} {ag:Bool} {p:AV} (h:∀ id∈refs p,K[id]?=H[id]?):loadAt K n ag p=loadAt H n ag p:=by
 cases p<;>simp only [loadAt,refs,List.mem_singleton,forall_eq] at h ⊢
 rw [getLive_congr h]
theorem iadS_congr {H K:List Obj} {sz:Nat} {x i:AV} (h:∀ id∈refs x,K[id]?=H[id]?):iadS K sz x i=iadS H sz x i:=by
 cases x<;>cases i<;>simp only [iadS,refs,List.mem_singleton,forall_eq] at h ⊢
 rw [getLive_congr h]
theorem slc_congr {H K:List Obj} {sz:Nat} {x:AV} {lo hi:Option AV} (h:∀ id∈refs x,K[id]?=H[id]?):slc K sz x lo hi=slc H sz x lo hi:=by
 cases x<;>simp only [slc,refs,List.mem_singleton,forall_eq] at h ⊢
 rw [getLive_congr h,nlAt_congr h]
theorem slcA_congr {H K:List Obj} {len sz:Nat} {x:AV} {lo hi:Option AV} (h:∀ id∈refs x,K[id]?=H[id]?):slcA K len sz x lo hi=slcA H len sz x lo hi:=by
 cases x<;>simp only [slcA,refs,List.mem_singleton,forall_eq] at h ⊢
 rw [getLive_congr h]
theorem isNil_congr {H K:List Obj} {x:AV} (h:∀ id∈refs x,K[id]?=H[id]?):isNil K x=isNil H x:=by
 cases x<;>simp only [isNil,refs,List.mem_singleton,forall_eq] at h ⊢
 rw [getLive_congr h,nlAt_congr h]
theorem eqN_congr {H K:List Obj} {neg:Bool} {x y:AV} (h:∀ id∈refs x++refs y,K[id]?=H[id]?):eqN K neg x y=eqN H neg x y:=by
 have hx:isNil K x=isNil H x:=isNil_congr fun id hm=>h id (by simp [hm])
 have hy:isNil K y=isNil H y:=isNil_congr fun id hm=>h id (by simp [hm])
 cases y<;>cases x<;>simp only [eqN,hx,hy]
theorem elemsOf_congr {H K:List Obj} {x:AV} (h:∀ id∈refs x,K[id]?=H[id]?):elemsOf K x=elemsOf H x:=by
 cases x<;>simp only [elemsOf,arrElems,refs,List.mem_singleton,forall_eq] at h ⊢
 all_goals rw [getLive_congr h]
theorem evalR_frame {t:List AV} {H K:List Obj} {pl:Nat} {x:RO} (h:∀ id∈(fpOf G t pl x).r,K[id]?=H[id]?):evalR G t K x=evalR G t H x:=by
 cases x<;>simp only [evalR,fpOf] at h ⊢
 ·rw [loadAt_congr h]
 ·rw [eqN_congr h]
 ·rw [iadS_congr h]
 ·rw [slc_congr h]
 ·rw [slcA_congr h]
theorem fp_pure {t:List AV} {pl:Nat} {x:RO} (h:x.kind= .pure):fpOf G t pl x={}:=by
 cases x<;>simp [RO.kind] at h<;>rfl
theorem fp_read {t:List AV} {pl:Nat} {x:RO} (h:x.kind= .read):(fpOf G t pl x).w=[]∧(fpOf G t pl x).all=false:=by
 cases x<;>simp [RO.kind] at h<;>exact ⟨rfl,rfl⟩
theorem fp_call {t:List AV} {pl:Nat} {x:RO} (h:x.kind= .call):(fpOf G t pl x).w=[]:=by
 cases x<;>simp [RO.kind] at h<;>rfl
theorem fp_write {t:List AV} {pl:Nat} {x:RO} (h:x.kind= .write):(fpOf G t pl x).all=false:=by
 cases x<;>simp [RO.kind] at h<;>rfl
theorem mapO_free (K:List Obj) (d:Nat):∀ xs:List AV,AV.bels 0 xs=true→mapO (pk d K) xs=some xs
 | [],_=>rfl
 | x::xs,h=>by
  simp only [AV.bels,Bool.and_eq_true] at h
  have h1:pk d K x=some x:=by cases d<;>simp [pk,AV.refFree,h.1]
  simp only [mapO,h1,mapO_free K d xs h.2]
theorem doCall_free {H K:List Obj} {f:Nat} {args:List AV} {v:AV} {H':List Obj} (hf:AV.bels 0 args=true)
 (h:doCall noHp cI noH f args H=some (v,H')):doCall noHp cI noH f args K=some (v,K):=by
 unfold doCall at h ⊢
 simp only [noHp,Bool.false_eq_true,if_false,snaps,mapO_free _ _ _ hf] at h ⊢
 split at h
 ·split at h
  ·simp only [Option.some.injEq,Prod.mk.injEq] at h
   rename_i h1
   simp only [h1,if_true]
   simp [h.1]
  ·simp at h
 ·simp at h
theorem putObj_get {H:List Obj} {pl:Nat} {o:Obj} (h:pl < H.length) (j:Nat):(putObj H pl o)[j]?=if j=pl then some o else H[j]?:=by
 unfold putObj
 rw [if_pos h]
 by_cases hj:j=pl
 ·subst hj;simp [h]
 ·rw [List.getElem?_set_ne (fun e=>hj e.symm),if_neg hj]
theorem plOk_lt {H:List Obj} {pl:Nat} {x:RO} (h:plOk H pl x=true) (ha:x.isAlloc=true):H[pl]?=some .rsv:=by
 simp only [plOk,ha,Bool.not_true,Bool.false_or] at h
 split at h
 ·assumption
 ·simp at h
theorem rsv_lt {H:List Obj} {pl:Nat} (h:H[pl]?=some .rsv):pl < H.length:=by
 rcases Nat.lt_or_ge pl H.length with e | e
 ·exact e
 ·rw [List.getElem?_eq_none e] at h;simp at h
theorem put_frame {H K:List Obj} {pl:Nat} {o:Obj} {l:List Nat} (h1:H[pl]?=some .rsv) (h2:K[pl]?=some .rsv) (hl:pl∈l) (hag:∀ id∈l,K[id]?=H[id]?):
 (∀ id∈l,(putObj K pl o)[id]?=(putObj H pl o)[id]?)∧∀ id,id ∉ l→(putObj K pl o)[id]?=K[id]?:=by
 constructor
 ·intro id hid
  rw [putObj_get (rsv_lt h1),putObj_get (rsv_lt h2),hag id hid]
 ·intro id hid
  rw [putObj_get (rsv_lt h2),if_neg (by rintro rfl;exact hid hl)]
theorem set_frame {H K:List Obj} {i:Nat} {o:Obj} {l:List Nat} (hi:i < H.length) (hK:i < K.length) (hl:i∈l) (hag:∀ id∈l,K[id]?=H[id]?):
 (∀ id∈l,(K.set i o)[id]?=(H.set i o)[id]?)∧∀ id,id ∉ l→(K.set i o)[id]?=K[id]?:=by
 constructor
 ·intro id hid
  by_cases h:id=i
  ·subst h;simp [hi,hK]
  ·rw [List.getElem?_set_ne (fun e=>h e.symm),List.getElem?_set_ne (fun e=>h e.symm),hag id hid]
 ·intro id hid
  rw [List.getElem?_set_ne (by rintro rfl;exact hid hl)]
theorem live_lt {H:List Obj} {id:Nat} {r} (h:getLive H id=some r):id < H.length:=by
 unfold getLive at h
 split at h
 ·rename_i h1
  rcases Nat.lt_or_ge id H.length with e | e
  ·exact e
  ·rw [List.getElem?_eq_none e] at h1;simp at h1
 ·simp at h
theorem getMp_congr {H K:List Obj} {id:Nat} (h:K[id]?=H[id]?):getMp K id=getMp H id:=by unfold getMp;rw [h]
theorem entries_congr {H K:List Obj} {x:AV} (h:∀ id∈refs x,K[id]?=H[id]?):entries K x=entries H x:=by
 cases x<;>simp only [entries,refs,List.mem_singleton,forall_eq] at h ⊢
 rw [getMp_congr h]
theorem mp_lt {H:List Obj} {id:Nat} {r} (h:getMp H id=some r):id < H.length:=by
 unfold getMp at h
 split at h
 ·rename_i h1
  rcases Nat.lt_or_ge id H.length with e | e
  ·exact e
  ·rw [List.getElem?_eq_none e] at h1;simp at h1
 ·simp at h
theorem mset_frame {H K H':List Obj} {k:CK} {m x v:AV} (h:mset H k m x v=some H') (hag:∀ id∈refs m,K[id]?=H[id]?):
 ∃ K',mset K k m x v=some K'∧(∀ id∈refs m,K'[id]?=H'[id]?)∧∀ id,id ∉ refs m→K'[id]?=K[id]?:=by
 cases m<;>simp only [mset] at h<;>try (simp at h;done)
 rename_i id
 simp only [refs,List.mem_singleton,forall_eq] at hag ⊢
 simp only [mset,getMp_congr hag]
 split at h
 case h_2=>simp at h
 rename_i es hl
 have hl2:getMp K id=some es:=by rw [getMp_congr hag];exact hl
 have fr:=fun o=>set_frame (l:=[id]) (o:=o) (mp_lt hl) (mp_lt hl2) (by simp) (by simpa using hag)
 split at h
 ·injection h with h;subst h
  rename_i hf
  exact ⟨_,rfl,(fr _).1 id (by simp),fun j hj=>(fr _).2 j (by simpa using hj)⟩
 ·rename_i hf
  split at h
  case isFalse=>simp at h
  rename_i he
  injection h with h;subst h
  rw [if_pos he]
  exact ⟨_,rfl,(fr _).1 id (by simp),fun j hj=>(fr _).2 j (by simpa using hj)⟩
 ·simp at h
theorem nxt_frame {H K H':List Obj} {x v:AV} (h:nxt H x=some (v,H')) (hag:∀ id∈refs x,K[id]?=H[id]?):
 ∃ K',nxt K x=some (v,K')∧(∀ id∈refs x,K'[id]?=H'[id]?)∧∀ id,id ∉ refs x→K'[id]?=K[id]?:=by
 cases x<;>simp only [nxt] at h<;>try (simp at h;done)
 rename_i id
 simp only [refs,List.mem_singleton,forall_eq] at hag ⊢
 simp only [nxt,hag]
 split at h
 case h_2=>simp at h
 rename_i s pos hl
 have lt:∀ L:List Obj,L[id]?=some (Obj.it s pos)→id < L.length:=fun L e=>by
  rcases Nat.lt_or_ge id L.length with q | q
  ·exact q
  ·rw [List.getElem?_eq_none q] at e;simp at e
 have fr:=fun o=>set_frame (l:=[id]) (o:=o) (lt H hl) (lt K (by rw [hag];exact hl)) (by simp) (by simpa using hag)
 split at h
 ·rename_i hp
  rw [if_pos hp]
  simp only [Option.some.injEq,Prod.mk.injEq] at h
  obtain ⟨rfl,rfl⟩:=h
  exact ⟨_,rfl,(fr _).1 id (by simp),fun j hj=>(fr _).2 j (by simpa using hj)⟩
 ·rename_i hp
  rw [if_neg hp]
  simp only [Option.some.injEq,Prod.mk.injEq] at h
  obtain ⟨rfl,rfl⟩:=h
  exact ⟨K,rfl,hag,fun _ _=>rfl⟩
theorem storeAt_frame {H K H':List Obj} {n:Nat} {a x:AV} (h:storeAt H n a x=some H') (hag:∀ id∈refs a,K[id]?=H[id]?):
 ∃ K',storeAt K n a x=some K'∧(∀ id∈refs a,K'[id]?=H'[id]?)∧∀ id,id ∉ refs a→K'[id]?=K[id]?:=by
 cases a<;>simp only [storeAt] at h<;>try (simp at h;done)
 rename_i id ext e o
 simp only [refs,List.mem_singleton,forall_eq] at hag ⊢
 split at h
 case h_2=>simp at h
 rename_i sz es hl
 split at h
 case isFalse=>simp at h
 rename_i hc
 split at h
 case h_2=>simp at h
 rename_i cs hcs
 injection h with h;subst h
 have hlK:getLive K id=some (sz,es):=by rw [getLive_congr hag];exact hl
 obtain ⟨f1,f2⟩:=set_frame (l:=[id]) (o:= .live (nlAt H id) sz (es.set e (putAt cs o x.cells))) (live_lt hl) (live_lt hlK) (by simp) (by simpa using hag)
 refine ⟨K.set id (.live (nlAt H id) sz (es.set e (putAt cs o x.cells))),?_,f1 id (by simp),fun j hj=>f2 j (by simpa using hj)⟩
 simp only [storeAt,hlK,nlAt_congr hag]
 rw [if_pos hc,hcs]
theorem append_frame {H K H':List Obj} {pl sz bytes:Nat} {s x v:AV} (h:append H pl sz bytes s x=some (v,H')) (hpl:H[pl]?=some .rsv)
 (hag:∀ id,id∈refs x∨id∈pl::refs s→K[id]?=H[id]?):
 ∃ K',append K pl sz bytes s x=some (v,K')∧(∀ id∈pl::refs s,K'[id]?=H'[id]?)∧∀ id,id ∉ pl::refs s→K'[id]?=K[id]?:=by
 have hx:elemsOf K x=elemsOf H x:=elemsOf_congr fun id hm=>hag id (.inl hm)
 have hplK:K[pl]?=some .rsv:=by rw [hag pl (.inr (by simp))];exact hpl
 unfold append at h
 split at h
 ·simp at h
 rename_i new hn
 have hxk:elemsOf K x=some new:=by rw [hx];exact hn
 split at h
 case isFalse=>simp at h
 rename_i hall
 split at h
 ·split at h
  ·rename_i hnew
   simp only [Option.some.injEq,Prod.mk.injEq] at h
   obtain ⟨rfl,rfl⟩:=h
   exact ⟨K,by simp [append,hxk,hnew],fun id hid=>hag id (.inr hid),fun _ _=>rfl⟩
  ·rename_i hnew
   split at h
   case isFalse=>simp at h
   rename_i hb
   simp only [Option.some.injEq,Prod.mk.injEq] at h
   obtain ⟨rfl,rfl⟩:=h
   obtain ⟨f1,f2⟩:=put_frame (o:= .live .norm sz new) (l:=pl::refs .nils) hpl hplK (by simp) (fun id hid=>hag id (.inr hid))
   exact ⟨_,by simp only [append,hxk];rw [if_pos hall,if_neg hnew,if_pos hb],f1,f2⟩
 ·rename_i id ext off len
  split at h
  case h_2=>simp at h
  rename_i sz' es hl
  split at h
  case isFalse=>simp at h
  rename_i hc
  have hid:K[id]?=H[id]?:=hag id (.inr (by simp [refs]))
  have hlK:getLive K id=some (sz',es):=by rw [getLive_congr hid];exact hl
  split at h
  ·rename_i hg
   simp only [Option.some.injEq,Prod.mk.injEq] at h
   obtain ⟨rfl,rfl⟩:=h
   obtain ⟨f1,f2⟩:=set_frame (l:=pl::refs (.own id ext off len)) (o:= .live (nlAt H id) sz (es++new)) (live_lt hl) (live_lt hlK) (by simp [refs]) (fun j hj=>hag j (.inr hj))
   refine ⟨K.set id (.live (nlAt H id) sz (es++new)),?_,f1,f2⟩
   simp only [append,hxk,hlK,nlAt_congr hid]
   rw [if_pos hall,if_pos hc,if_pos hg]
  ·rename_i hg
   split at h
   case h_2=>simp at h
   rename_i fl hfl
   split at h
   case isFalse=>simp at h
   rename_i hq
   simp only [Option.some.injEq,Prod.mk.injEq] at h
   obtain ⟨rfl,rfl⟩:=h
   obtain ⟨f1,f2⟩:=set_frame (l:=pl::refs (.own id ext off len)) (o:= .live fl sz es) (live_lt hl) (live_lt hlK) (by simp [refs]) (fun j hj=>hag j (.inr hj))
   have hne:id≠pl:=by omega
   have hpl':(H.set id (.live fl sz es))[pl]?=some .rsv:=by rw [List.getElem?_set_ne hne];exact hpl
   have hplK':(K.set id (.live fl sz es))[pl]?=some .rsv:=by rw [List.getElem?_set_ne hne];exact hplK
   obtain ⟨g1,g2⟩:=put_frame (o:= .live .ch sz (es++new)) (l:=pl::refs (.own id ext off len)) hpl' hplK' (by simp) f1
   refine ⟨_,?_,g1,fun j hj=>by rw [g2 j hj,f2 j hj]⟩
   simp only [append,hxk,hlK,nlAt_congr hid]
   rw [if_pos hall,if_pos hc,if_neg hg,hfl]
   dsimp only
   rw [if_pos hq]
 ·simp at h
theorem mapO_same {f g:AV→Option AV} (hfg:∀ x,x.bel 0=true→f x=g x):∀ L:List AV,AV.bels 0 L=true→mapO f L=mapO g L
 | [],_=>rfl
 | x::xs,h=>by
  simp only [AV.bels,Bool.and_eq_true] at h
  simp only [mapO,hfg x h.1,mapO_same hfg xs h.2]
theorem mapOO_same {f g:AV→Option AV} (hfg:∀ x,x.bel 0=true→f x=g x):∀ L:List (List AV),AV.belss 0 L=true→mapOO f L=mapOO g L
 | [],_=>rfl
 | x::xs,h=>by
  simp only [AV.belss,Bool.and_eq_true] at h
  simp only [mapOO,mapO_same hfg x h.1,mapOO_same hfg xs h.2]
theorem pk_same (H K:List Obj) (d:Nat) (x:AV) (h:x.bel 0=true):pk d K x=pk d H x:=by
 cases d<;>simp [pk,AV.refFree,h]
theorem lent1_congr {H K:List Obj} {x:AV} (h:∀ id∈refs x,K[id]?=H[id]?):lent1 K x=lent1 H x:=by
 unfold lent1
 split
 ·rfl
 ·rename_i hb
  cases x<;>try rfl
  rename_i id ext off len
  have h1:=h id (by simp [refs])
  simp only [h1]
  split
  ·rename_i fl sz es hH
   split
   ·rename_i hbl
    rw [hH] at h1
    have key:∀ d,pk (d+1) K (.own id ext off len)=pk (d+1) H (.own id ext off len):=fun d=>by
     simp only [pk,AV.refFree,hb,getLive,nlAt,h1,hH,Bool.false_eq_true,if_false]
     rw [mapOO_same (fun x hx=>pk_same H K d x hx) _ hbl]
    exact key 5
   ·rfl
  ·rfl
theorem lents_congr {H K:List Obj}:∀ {xs:List AV},(∀ id∈xs.flatMap refs,K[id]?=H[id]?)→lents K xs=lents H xs
 | [],_=>rfl
 | x::xs,h=>by
  simp only [lents]
  rw [lent1_congr (x:=x) fun id hid=>h id (by simp [hid]),lents_congr (xs:=xs) fun id hid=>h id (by simp only [List.flatMap_cons,List.mem_append];exact .inr hid)]
theorem lents_snaps {H:List Obj}:∀ {xs ys:List AV},lents H xs=some ys→snaps H xs=some ys
 | [],ys,h=>by simpa [lents,snaps,mapO] using h
 | x::xs,ys,h=>by
  simp only [lents] at h
  split at h
  case h_2=>simp at h
  rename_i y r h1 h2
  simp only [Option.some.injEq] at h
  subst h
  have h3:=lents_snaps h2
  have h4:pk 6 H x=some y:=by
   unfold lent1 at h1
   split at h1
   ·rename_i hb
    injection h1 with h1;subst h1
    simp [pk,AV.refFree,hb]
   ·split at h1
    ·split at h1
     ·split at h1
      ·exact h1
      ·simp at h1
     ·simp at h1
    ·simp at h1
  unfold snaps at h3 ⊢
  simp only [mapO,h4,h3]
theorem doCall_lent {H K:List Obj} {f:Nat} {args:List AV} {v:AV} {H':List Obj} (hok:lentOk H args=true) (hag:∀ id∈args.flatMap refs,K[id]?=H[id]?)
 (h:doCall noHp cI noH f args H=some (v,H')):doCall noHp cI noH f args K=some (v,K)∧H'=H:=by
 unfold lentOk at hok
 cases hl:lents H args with
 | none=>rw [hl] at hok;simp at hok
 | some ys=>
  have h1:=lents_snaps hl
  have h2:snaps K args=some ys:=lents_snaps (by rw [lents_congr hag];exact hl)
  unfold doCall at h ⊢
  simp only [noHp,Bool.false_eq_true,if_false,h1,h2] at h ⊢
  split at h
  case h_2=>simp at h
  split at h
  case isFalse=>simp at h
  rename_i hc
  simp only [Option.some.injEq,Prod.mk.injEq] at h
  obtain ⟨rfl,rfl⟩:=h
  exact ⟨by rw [if_pos hc],rfl⟩
theorem evalOp_frame {x:RO} {t:List AV} {H H' K:List Obj} {pl:Nat} {v:AV} (hnc:∀ f args,x≠ .call f args) (h:evalOp G noHp cI noH pl x t H=some (v,H')) (hpl:plOk H pl x=true)
 (hall:(fpOf G t pl x).all=true→K=H) (hag:∀ id,id∈(fpOf G t pl x).r∨id∈(fpOf G t pl x).w→K[id]?=H[id]?):
 ∃ K',evalOp G noHp cI noH pl x t K=some (v,K')∧(∀ id∈(fpOf G t pl x).w,K'[id]?=H'[id]?)∧∀ id,id ∉ (fpOf G t pl x).w→K'[id]?=K[id]?:=by
 cases hk:x.kind with
 | pure=>
  unfold evalOp at h ⊢
  rw [hk] at h ⊢;dsimp only at h ⊢
  split at h
  case h_2=>simp at h
  rename_i u hu
  simp only [Option.some.injEq,Prod.mk.injEq] at h
  obtain ⟨rfl,rfl⟩:=h
  rw [fp_pure G hk]
  exact ⟨K,by simp [hu],fun id hid=>by simp at hid,fun _ _=>rfl⟩
 | read=>
  unfold evalOp at h ⊢
  rw [hk] at h ⊢;dsimp only at h ⊢
  split at h
  case h_2=>simp at h
  rename_i u hu
  simp only [Option.some.injEq,Prod.mk.injEq] at h
  obtain ⟨rfl,rfl⟩:=h
  have hKR:=evalR_frame G (t:=t) (pl:=pl) (x:=x) (H:=H) (K:=K) fun id hid=>hag id (.inl hid)
  rw [(fp_read G hk).1]
  exact ⟨K,by rw [hKR,hu],fun id hid=>by simp at hid,fun _ _=>rfl⟩
 | call=>
  rw [fp_call G hk]
  refine ⟨K,?_,fun id hid=>by simp at hid,fun _ _=>rfl⟩
  by_cases ha:(fpOf G t pl x).all=true
  ·rw [hall ha]
   have:=evalOp_nw G cI (by rw [hk];simp) h
   rw [h,this]
  ·have hff:∀ f args,AV.bels 0 args=true→doCall noHp cI noH f args H=some (v,H')→doCall noHp cI noH f args K=some (v,K):=fun f args hf hd=>doCall_free cI hf hd
   unfold evalOp at h ⊢
   rw [hk] at h ⊢;dsimp only at h ⊢
   cases x with
   | call f args=>exact (hnc _ _ rfl).elim
   | callv fx args=>
    simp only [fpOf] at ha h ⊢
    split at h
    case h_3=>simp [noH] at h
    case h_4=>simp at h
    case h_2=>
     rename_i f cap hfx
     rw [hfx] at ha
     simp only [Bool.not_eq_true,Bool.not_eq_false',Bool.and_eq_true,AV.bel] at ha
     refine hff _ _ ?_ h
     have app:∀ (a b:List AV),AV.bels 0 a=true→AV.bels 0 b=true→AV.bels 0 (a++b)=true:=by
      intro a b ha hb
      induction a with
      | nil=>exact hb
      | cons y a ih=>simp only [AV.bels,Bool.and_eq_true,List.cons_append] at ha ⊢;exact ⟨ha.1,ih ha.2⟩
     exact app _ _ ha.1 ha.2
    rename_i f cap hfx
    rw [hfx] at ha
    simp only [Bool.not_eq_true,Bool.not_eq_false',Bool.and_eq_true,AV.bel] at ha
    refine hff _ _ ?_ h
    have app:∀ (a b:List AV),AV.bels 0 a=true→AV.bels 0 b=true→AV.bels 0 (a++b)=true:=by
     intro a b ha hb
     induction a with
     | nil=>exact hb
     | cons y a ih=>simp only [AV.bels,Bool.and_eq_true,List.cons_append] at ha ⊢;exact ⟨ha.1,ih ha.2⟩
    exact app _ _ ha.2 ha.1
   | _=>simp [RO.kind] at hk
 | write=>
  unfold evalOp at h ⊢
  rw [hk] at h ⊢;dsimp only at h ⊢
  have alloc:∀ (o:Obj),x.isAlloc=true→(fpOf G t pl x).w=[pl]→
   (∀ id∈(fpOf G t pl x).w,(putObj K pl o)[id]?=(putObj H pl o)[id]?)∧∀ id,id ∉ (fpOf G t pl x).w→(putObj K pl o)[id]?=K[id]?:=by
   intro o ha hw
   have h1:=plOk_lt hpl ha
   refine put_frame h1 ?_ (by rw [hw];simp) fun id hid=>hag id (.inr hid)
   rw [hag pl (.inr (by rw [hw];simp))];exact h1
  cases x with
  | box y=>
   simp only [evalW] at h ⊢
   split at h
   case isFalse=>simp at h
   simp only [Option.some.injEq,Prod.mk.injEq] at h
   obtain ⟨rfl,rfl⟩:=h
   exact ⟨_,by rw [if_pos (by assumption)],alloc _ rfl rfl⟩
  | alloc z=>
   simp only [evalW] at h ⊢
   split at h
   case isFalse=>simp at h
   simp only [Option.some.injEq,Prod.mk.injEq] at h
   obtain ⟨rfl,rfl⟩:=h
   exact ⟨_,by rw [if_pos (by assumption)],alloc _ rfl rfl⟩
  | bsl sz z len parts=>
   simp only [evalW] at h ⊢
   split at h
   case isFalse=>simp at h
   rename_i hc
   rw [if_pos hc]
   split at h
   case h_2=>simp at h
   rename_i es hes
   simp only [Option.some.injEq,Prod.mk.injEq] at h
   obtain ⟨rfl,rfl⟩:=h
   exact ⟨_,rfl,alloc _ rfl rfl⟩
  | mks sz z bytes l cp=>
   simp only [evalW] at h ⊢
   split at h
   case h_2=>simp at h
   split at h
   case isFalse=>simp at h
   rename_i hc
   rw [if_pos hc]
   simp only [Option.some.injEq,Prod.mk.injEq] at h
   obtain ⟨rfl,rfl⟩:=h
   exact ⟨_,rfl,alloc _ rfl rfl⟩
  | bslr z len parts=>
   simp only [evalW] at h ⊢
   split at h
   case isFalse=>simp at h
   rename_i hc
   rw [if_pos hc]
   split at h
   case h_2=>simp at h
   rename_i es hes
   split at h
   case isFalse=>simp at h
   rename_i hb
   rw [if_pos hb]
   simp only [Option.some.injEq,Prod.mk.injEq] at h
   obtain ⟨rfl,rfl⟩:=h
   exact ⟨K,rfl,fun id hid=>hag id (.inr hid),fun _ _=>rfl⟩
  | appn sz z bytes l cp=>
   simp only [evalW] at h ⊢
   split at h
   case h_2=>simp at h
   split at h
   case isFalse=>simp at h
   rename_i hc
   rw [if_pos hc]
   simp only [Option.some.injEq,Prod.mk.injEq] at h
   obtain ⟨rfl,rfl⟩:=h
   exact ⟨_,rfl,alloc _ rfl rfl⟩
  | store n a y=>
   simp only [evalW] at h ⊢
   split at h
   case h_2=>simp at h
   rename_i H2 hs
   simp only [Option.some.injEq,Prod.mk.injEq] at h
   obtain ⟨rfl,rfl⟩:=h
   obtain ⟨K',k1,k2,k3⟩:=storeAt_frame hs fun id hid=>hag id (.inr hid)
   exact ⟨K',by rw [k1],k2,k3⟩
  | app sz bytes s y=>
   simp only [evalW] at h ⊢
   exact append_frame h (plOk_lt hpl rfl) fun id hid=>hag id hid
  | bad=>simp [evalW] at h
  | mkc f args=>simp [evalW] at h
  | appf sz bytes s y=>simp [evalW] at h
  | bslf sz z len parts=>simp [evalW] at h
  | mkm=>
   simp only [evalW,Option.some.injEq,Prod.mk.injEq] at h ⊢
   obtain ⟨rfl,rfl⟩:=h
   exact ⟨_,⟨rfl,rfl⟩,alloc _ rfl rfl⟩
  | rng y=>
   simp only [evalW] at h ⊢
   split at h
   case h_2=>simp at h
   simp only [Option.some.injEq,Prod.mk.injEq] at h
   obtain ⟨rfl,rfl⟩:=h
   exact ⟨_,rfl,alloc _ rfl rfl⟩
  | mset k m x v=>
   simp only [evalW] at h ⊢
   split at h
   case h_2=>simp at h
   rename_i H2 hs
   simp only [Option.some.injEq,Prod.mk.injEq] at h
   obtain ⟨rfl,rfl⟩:=h
   obtain ⟨K',k1,k2,k3⟩:=mset_frame hs fun id hid=>hag id (.inr hid)
   exact ⟨K',by rw [k1],k2,k3⟩
  | nxt y=>
   simp only [evalW] at h ⊢
   exact nxt_frame h fun id hid=>hag id (.inr hid)
  | mget k z ok m x=>
   simp only [evalW] at h ⊢
   have e:∀ L:List Obj,entries L (m.ev G t)=entries H (m.ev G t)→Am.mget L k z ok (m.ev G t) (x.ev G t)=Am.mget H k z ok (m.ev G t) (x.ev G t):=fun L e=>by unfold Am.mget;rw [e]
   rw [e K (entries_congr fun id hid=>hag id (.inl hid))]
   split at h
   case h_2=>simp at h
   rename_i hs
   simp only [Option.some.injEq,Prod.mk.injEq] at h
   obtain ⟨rfl,rfl⟩:=h
   exact ⟨K,rfl,fun id hid=>hag id (.inr hid),fun _ _=>rfl⟩
  | mlen m=>
   simp only [evalW] at h ⊢
   have e:∀ L:List Obj,entries L (m.ev G t)=entries H (m.ev G t)→Am.mlen L (m.ev G t)=Am.mlen H (m.ev G t):=fun L e=>by unfold Am.mlen;rw [e]
   rw [e K (entries_congr fun id hid=>hag id (.inl hid))]
   split at h
   case h_2=>simp at h
   rename_i hs
   simp only [Option.some.injEq,Prod.mk.injEq] at h
   obtain ⟨rfl,rfl⟩:=h
   exact ⟨K,rfl,fun id hid=>hag id (.inr hid),fun _ _=>rfl⟩
  | b2s m=>
   simp only [evalW] at h ⊢
   have e:∀ L:List Obj,elemsOf L (m.ev G t)=elemsOf H (m.ev G t)→Am.b2s L (m.ev G t)=Am.b2s H (m.ev G t):=fun L e=>by unfold Am.b2s;rw [e]
   rw [e K (elemsOf_congr fun id hid=>hag id (.inl hid))]
   split at h
   case h_2=>simp at h
   rename_i hs
   simp only [Option.some.injEq,Prod.mk.injEq] at h
   obtain ⟨rfl,rfl⟩:=h
   exact ⟨K,rfl,fun id hid=>hag id (.inr hid),fun _ _=>rfl⟩
  | _=>simp [RO.kind] at hk
theorem frzRes_frame {w:List Nat} {v1 r:AV} {H1 H2 K1 K:List Obj} (h:frzRes w (some (v1,H1))=some (r,H2)) (k2:∀ id∈w,K1[id]?=H1[id]?) (k3:∀ id,id ∉ w→K1[id]?=K[id]?):
 ∃ K2,frzRes w (some (v1,K1))=some (r,K2)∧(∀ id∈w,K2[id]?=H2[id]?)∧∀ id,id ∉ w→K2[id]?=K[id]?:=by
 unfold frzRes at h ⊢
 dsimp only at h ⊢
 split at h
 case isFalse=>simp at h
 rename_i hin
 rw [if_pos hin]
 have hw:∀ id∈refs v1,id∈w:=fun id hid=>by
  have:=List.all_eq_true.1 hin id hid
  simpa using this
 split at h
 case h_2=>simp at h
 rename_i r0 H20 hf
 simp only [Option.some.injEq,Prod.mk.injEq] at h
 obtain ⟨rfl,rfl⟩:=h
 simp only [frz1,List.getD_cons_zero] at hf ⊢
 split at hf
 ·rename_i id ext off len
  have hid:=hw id (by simp [refs])
  have hg:=k2 id hid
  rw [getLive_congr hg,nlAt_congr hg]
  split at hf
  case h_2=>simp at hf
  rename_i sz1 es hl
  try rw [hl]
  try dsimp only
  split at hf
  case isFalse=>simp at hf
  rename_i hc
  try rw [if_pos hc]
  simp only [Option.some.injEq,St.mk.injEq,List.set_cons_zero,List.cons.injEq,and_true] at hf
  obtain ⟨rfl,rfl⟩:=hf
  have hlt:id < H1.length:=by
   rcases Nat.lt_or_ge id H1.length with e | e
   ·exact e
   ·simp [getLive,List.getElem?_eq_none e] at hl
  have hltK:id < K1.length:=by
   rcases Nat.lt_or_ge id K1.length with e | e
   ·exact e
   ·rw [List.getElem?_eq_none e] at hg;rw [List.getElem?_eq_getElem hlt] at hg;simp at hg
  refine ⟨_,rfl,fun i hi=>?_,fun i hi=>?_⟩
  ·by_cases e:id=i
   ·subst e;simp [hlt,hltK]
   ·rw [List.getElem?_set_ne e,List.getElem?_set_ne e];exact k2 i hi
  ·have e:id≠i:=by rintro rfl;exact hi hid
   rw [List.getElem?_set_ne e];exact k3 i hi
 ·simp only [Option.some.injEq,St.mk.injEq,List.cons.injEq,and_true] at hf
  obtain ⟨rfl,rfl⟩:=hf
  refine ⟨K1,?_,k2,k3⟩
  cases v1<;>first | rfl | (rename_i hne;exact (hne _ _ _ _ rfl).elim)
theorem evalD_frame {x:RO} {t:List AV} {H H' K:List Obj} {pl:Nat} {v:AV} (h:evalD G cI pl x t H=some (v,H')) (hpl:plOk H pl x=true)
 (hall:(fpOf G t pl x).all=true→K=H) (hag:∀ id,id∈(fpOf G t pl x).r∨id∈(fpOf G t pl x).w→K[id]?=H[id]?):
 ∃ K',evalD G cI pl x t K=some (v,K')∧(∀ id∈(fpOf G t pl x).w,K'[id]?=H'[id]?)∧∀ id,id ∉ (fpOf G t pl x).w→K'[id]?=K[id]?:=by
 by_cases hm:∃ f args,x= .mkc f args
 ·obtain ⟨f,args,rfl⟩:=hm
  simp only [evalD,mkObj] at h ⊢
  rw [lents_congr (K:=K) (H:=H) fun id hid=>hag id (.inl (by simpa [fpOf] using hid))]
  split at h
  case h_2=>simp at h
  rename_i ys hys
  split at h
  case h_2=>simp at h
  rename_i sz x hc
  try rw [hc]
  split at h
  case isFalse=>simp at h
  rename_i hb
  try rw [if_pos hb]
  have h1:=plOk_lt hpl rfl
  have h2:K[pl]?=some .rsv:=by rw [hag pl (.inr (by simp [fpOf]))];exact h1
  unfold mkPut at h ⊢
  split at h
  ·simp only [Option.some.injEq,Prod.mk.injEq] at h
   obtain ⟨rfl,rfl⟩:=h
   exact ⟨_,rfl,put_frame h1 h2 (by simp [fpOf]) fun id hid=>hag id (.inr hid)⟩
  ·simp only [Option.some.injEq,Prod.mk.injEq] at h
   obtain ⟨rfl,rfl⟩:=h
   exact ⟨K,rfl,fun id hid=>hag id (.inr hid),fun _ _=>rfl⟩
  ·simp only [Option.some.injEq,Prod.mk.injEq] at h
   obtain ⟨rfl,rfl⟩:=h
   exact ⟨_,rfl,put_frame h1 h2 (by simp [fpOf]) fun id hid=>hag id (.inr hid)⟩
  ·simp at h
 by_cases ha:∃ sz b y z,x= .appf sz b y z
 ·obtain ⟨sz,b,y,z,rfl⟩:=ha
  simp only [evalD] at h ⊢
  cases happ:evalW G t H pl (.app sz b y z) with
  | none=>rw [happ] at h;simp [frzRes] at h
  | some q=>
   obtain ⟨v1,H1⟩:=q
   rw [happ] at h
   obtain ⟨K1,k1,k2,k3⟩:=evalOp_frame G cI (x:= .app sz b y z) (fun f args e=>by simp at e) happ hpl (fun e=>by simp [fpOf] at e) hag
   have k1':evalW G t K pl (.app sz b y z)=some (v1,K1):=k1
   rw [k1']
   exact frzRes_frame h k2 k3
 by_cases hb:∃ sz z len parts,x= .bslf sz z len parts
 ·obtain ⟨sz,z,len,parts,rfl⟩:=hb
  simp only [evalD] at h ⊢
  cases happ:evalW G t H pl (.bsl sz z len parts) with
  | none=>rw [happ] at h;simp [frzRes] at h
  | some q=>
   obtain ⟨v1,H1⟩:=q
   rw [happ] at h
   obtain ⟨K1,k1,k2,k3⟩:=evalOp_frame G cI (x:= .bsl sz z len parts) (fun f args e=>by simp at e) happ hpl (fun e=>by simp [fpOf] at e) hag
   have k1':evalW G t K pl (.bsl sz z len parts)=some (v1,K1):=k1
   rw [k1']
   exact frzRes_frame h k2 k3
 by_cases hc:∃ f args,x= .call f args
 ·obtain ⟨f,args,rfl⟩:=hc
  simp only [evalD] at h ⊢
  split at h
  case isFalse=>simp at h
  rename_i hok
  have hag':∀ id∈(args.map (·.ev G t)).flatMap refs,K[id]?=H[id]?:=fun id hid=>hag id (.inl (by simpa [fpOf] using hid))
  have hokK:lentOk K (args.map (·.ev G t))=true:=by unfold lentOk at hok ⊢;rw [lents_congr hag'];exact hok
  rw [if_pos hokK]
  have h':doCall noHp cI noH f (args.map (·.ev G t)) H=some (v,H'):=h
  obtain ⟨k1,rfl⟩:=doCall_lent cI hok hag' h'
  exact ⟨K,k1,fun id hid=>by simp [fpOf] at hid,fun _ _=>rfl⟩
 ·have e:∀ L,evalD G cI pl x t L=evalOp G noHp cI noH pl x t L:=fun L=>by
   cases x<;>first | rfl | exact (hm ⟨_,_,rfl⟩).elim | exact (hc ⟨_,_,rfl⟩).elim | exact (ha ⟨_,_,_,_,rfl⟩).elim | exact (hb ⟨_,_,_,_,rfl⟩).elim
  rw [e] at h
  obtain ⟨K',k1,k2⟩:=evalOp_frame G cI (fun f args e=>hc ⟨f,args,e⟩) h hpl hall hag
  exact ⟨K',by rw [e];exact k1,k2⟩
theorem evalD_congr {t t':List AV} {H:List Obj} {x:RO} (pl:Nat) (h:∀ r∈x.ops,r.ev G t=r.ev G t'):evalD G cI pl x t H=evalD G cI pl x t' H:=by
 by_cases hm:∃ f args,x= .mkc f args
 ·obtain ⟨f,args,rfl⟩:=hm
  simp only [evalD]
  rw [map_congr' (l:=args) (f:=fun r=>r.ev G t) (g:=fun r=>r.ev G t') h]
 by_cases ha:∃ sz b y z,x= .appf sz b y z
 ·obtain ⟨sz,b,y,z,rfl⟩:=ha
  have hy:=h y (by simp [RO.ops])
  have hz:=h z (by simp [RO.ops])
  simp only [evalD,evalW,hy,hz]
 by_cases hb:∃ sz z len parts,x= .bslf sz z len parts
 ·obtain ⟨sz,z,len,parts,rfl⟩:=hb
  simp only [evalD]
  rw [evalW_congr G (x:= .bsl sz z len parts) (t:=t) (t':=t') fun r hr=>h r hr]
 by_cases hc:∃ f args,x= .call f args
 ·obtain ⟨f,args,rfl⟩:=hc
  have:=evalOp_congr (H:=H) G cI noHp noH pl h
  simp only [evalD]
  rw [map_congr' (l:=args) (f:=fun r=>r.ev G t) (g:=fun r=>r.ev G t') h]
  split
  ·exact this
  ·rfl
 ·have e:∀ s,evalD G cI pl x s H=evalOp G noHp cI noH pl x s H:=fun s=>by
   cases x<;>first | rfl | exact (hm ⟨_,_,rfl⟩).elim | exact (hc ⟨_,_,rfl⟩).elim | exact (ha ⟨_,_,_,_,rfl⟩).elim | exact (hb ⟨_,_,_,_,rfl⟩).elim
  rw [e,e];exact evalOp_congr G cI noHp noH pl h
theorem plOk_congr {H K:List Obj} {pl:Nat} {x:RO} {t:List AV} (hag:∀ id,id∈(fpOf G t pl x).r∨id∈(fpOf G t pl x).w→K[id]?=H[id]?) (h:plOk H pl x=true):plOk K pl x=true:=by
 cases ha:x.isAlloc with
 | false=>simp [plOk,ha]
 | true=>
  have h1:=plOk_lt h ha
  have h2:pl∈(fpOf G t pl x).w:=by cases x<;>simp [RO.isAlloc] at ha<;>simp [fpOf]
  simp only [plOk,ha,Bool.not_true,Bool.false_or,hag pl (.inr h2),h1]
theorem actD_frame {o:ROp} {t:List AV} {H H' K:List Obj} {pl:Nat} {v:AV} {f:FP} (h:actD G cI pl o t H=some (v,H',f))
 (hall:f.all=true→K=H) (hag:∀ id,id∈f.r∨id∈f.w→K[id]?=H[id]?):
 ∃ K',actD G cI pl o t K=some (v,K',f)∧(∀ id∈f.w,K'[id]?=H'[id]?)∧∀ id,id ∉ f.w→K'[id]?=K[id]?:=by
 unfold actD at h ⊢
 split at h
 ·split at h
  case isFalse=>simp at h
  rename_i hpl
  split at h
  case h_2=>simp at h
  rename_i u H2 he
  simp only [Option.some.injEq,Prod.mk.injEq] at h
  obtain ⟨rfl,rfl,rfl⟩:=h
  obtain ⟨K',k1,k2,k3⟩:=evalD_frame G cI he hpl hall hag
  refine ⟨K',?_,k2,k3⟩
  rw [if_pos (plOk_congr G hag hpl)]
  rw [k1]
 ·simp only [Option.some.injEq,Prod.mk.injEq] at h
  obtain ⟨rfl,rfl,rfl⟩:=h
  exact ⟨K,rfl,fun id hid=>by simp at hid,fun _ _=>rfl⟩
 ·simp at h
theorem actD_keep {o:ROp} {t:List AV} {H H':List Obj} {pl:Nat} {v:AV} {f:FP} (h:actD G cI pl o t H=some (v,H',f)):
 ∀ id,id ∉ f.w→H'[id]?=H[id]?:=by
 obtain ⟨K',k1,_,k3⟩:=actD_frame G cI h (K:=H) (fun _=>rfl) (fun _ _=>rfl)
 rw [h] at k1
 simp only [Option.some.injEq,Prod.mk.injEq] at k1
 obtain ⟨_,rfl,_⟩:=k1
 exact k3
theorem actD_congr {o:ROp} {t:List AV} {H:List Obj} {pl:Nat} {d:Option Nat} {v:AV} (h:notIn d (readsOf o)=true):
 actD G cI pl o (setD t d v) H=actD G cI pl o t H:=by
 have hr:∀ s∈readsOf o,d≠some s:=by
  intro s hs hd
  subst hd
  simp only [notIn,Bool.not_eq_true',List.contains_eq_mem] at h
  simp [hs] at h
 unfold actD
 have hw:want (setD t d v) o.guard=want t o.guard:=by
  cases hg:o.guard with
  | none=>rfl
  | some g=>
   obtain ⟨s,b⟩:=g
   have:=hr s (by simp [readsOf,hg])
   cases d with
   | none=>rfl
   | some d=>
    have hne:d≠s:=fun e=>this (by rw [e])
    simp only [want,setD]
    rw [getD_set_ne hne]
 rw [hw]
 have hev:∀ r∈o.op.ops,r.ev G (setD t d v)=r.ev G t:=fun r hm=>ev_setD G fun s hs=>hr s (by simp [readsOf];exact .inr ⟨r,hm,hs⟩)
 cases want t o.guard with
 | none=>rfl
 | some b=>
  cases b with
  | false=>rfl
  | true=>
   have h1:evalD G cI pl o.op (setD t d v) H=evalD G cI pl o.op t H:=evalD_congr G cI pl hev
   have h2:fpOf G (setD t d v) pl o.op=fpOf G t pl o.op:=by
    revert hev
    cases o.op<;>intro hev<;>simp only [fpOf,RO.ops,List.mem_cons,List.not_mem_nil,or_false,forall_eq_or_imp,forall_eq,List.mem_append] at hev ⊢<;>(try rw [hev])<;>(try rw [hev.1])<;>(try rw [hev.2])<;>(try rw [hev.1])
    ·rw [map_congr' hev]
    ·rw [map_congr' hev.2]
    ·rw [map_congr' hev]
   dsimp only
   rw [h1,h2]
theorem noneOf_iff {a b:List Nat}:noneOf a b=true↔∀ x∈a,x ∉ b:=by
 simp [noneOf,List.all_eq_true]
theorem swapD {b0 ka kb:Nat} {a b:ROp} {os:List (Nat×ROp)} {t t':List AV} {H H':List Obj} {fs:List FP} {fa fb:FP} (hs:freeSlots a b=true) (hd:disj fa fb=true)
 (h:runD G cI b0 ((ka,a)::(kb,b)::os) t H=some (t',H',fa::fb::fs)):
 runD G cI b0 ((kb,b)::(ka,a)::os) t H=some (t',H',fb::fa::fs):=by
 simp only [freeSlots,Bool.and_eq_true] at hs
 obtain ⟨⟨h1,h2⟩,h3⟩:=hs
 simp only [disj,Bool.and_eq_true,noneOf_iff] at hd
 obtain ⟨⟨⟨⟨d1,d2⟩,d3⟩,d4⟩,d5⟩:=hd
 rw [runD] at h
 split at h
 case h_2=>simp at h
 rename_i v H1 f1 ha
 split at h
 case h_2=>simp at h
 rename_i t1 H2 fs1 hr
 simp only [Option.some.injEq,Prod.mk.injEq,List.cons.injEq] at h
 obtain ⟨rfl,rfl,rfl,rfl⟩:=h
 rw [runD,actD_congr G cI h1] at hr
 split at hr
 case h_2=>simp at hr
 rename_i u H3 f2 hb
 split at hr
 case h_2=>simp at hr
 rename_i t2 H4 fs2 hr2
 simp only [Option.some.injEq,Prod.mk.injEq,List.cons.injEq] at hr
 obtain ⟨rfl,rfl,rfl,rfl⟩:=hr
 have ka1:=actD_keep G cI ha
 have kb1:=actD_keep G cI hb
 obtain ⟨Hb,q1,q2,q3⟩:=actD_frame G cI hb (K:=H) (fun hal=>by
  have hw:f1.w=[]:=by simpa [hal] using d5
  apply List.ext_getElem?;intro j;exact (ka1 j (by rw [hw];simp)).symm) (fun id hid=>by
  refine (ka1 id ?_).symm
  rcases hid with hid | hid
  ·exact fun hm=>d1 id hm hid
  ·exact fun hm=>d2 id hm hid)
 obtain ⟨Hba,p1,p2,p3⟩:=actD_frame G cI ha (K:=Hb) (fun hal=>by
  have hw:f2.w=[]:=by simpa [hal] using d4
  apply List.ext_getElem?;intro j;exact q3 j (by rw [hw];simp)) (fun id hid=>by
  refine q3 id ?_
  rcases hid with hid | hid
  ·exact fun hm=>d3 id hm hid
  ·exact fun hm=>d2 id hid hm)
 have heq:Hba=H3:=by
  apply List.ext_getElem?
  intro j
  by_cases hja:j∈f1.w
  ·rw [p2 j hja,kb1 j (d2 j hja)]
  ·rw [p3 j hja]
   by_cases hjb:j∈f2.w
   ·rw [q2 j hjb]
   ·rw [q3 j hjb,kb1 j hjb,ka1 j hja]
 subst heq
 rw [runD,q1]
 dsimp only
 rw [runD,actD_congr G cI h2,p1]
 dsimp only
 rw [←setD_comm h3,hr2]
theorem frontD {b0 ka:Nat} {a:ROp} {fa:FP} {os:List (Nat×ROp)} {t':List AV} {H':List Obj} {fs:List FP}:∀ (pre:List (Nat×ROp)) (fp:List FP) (t:List AV) (H:List Obj),fp.length=pre.length→
 (∀ i (h1:i < pre.length) (h2:i < fp.length),freeSlots pre[i].2 a=true∧disj fp[i] fa=true)→
 runD G cI b0 (pre++(ka,a)::os) t H=some (t',H',fp++fa::fs)→runD G cI b0 ((ka,a)::(pre++os)) t H=some (t',H',fa::(fp++fs)):=by
 intro pre
 induction pre with
 | nil=>
  intro fp t H hl _ h
  have:fp=[]:=by simpa using hl
  subst this;exact h
 | cons b pre ih=>
  intro fp t H hl hf h
  obtain ⟨kb,b⟩:=b
  cases fp with
  | nil=>simp at hl
  | cons fb fp=>
   have h0:=hf 0 (by simp) (by simp)
   refine swapD G cI h0.1 h0.2 ?_
   rw [List.cons_append,List.cons_append,runD] at h
   rw [runD]
   cases hb:actD G cI (b0+kb) b t H with
   | none=>rw [hb] at h;simp at h
   | some x=>
    obtain ⟨v,H1,f1⟩:=x
    rw [hb] at h
    dsimp only at h ⊢
    split at h
    case h_2=>simp at h
    rename_i t1 H2 fs1 hr
    simp only [Option.some.injEq,Prod.mk.injEq,List.cons.injEq] at h
    obtain ⟨rfl,rfl,rfl,rfl⟩:=h
    have:=ih fp _ _ (by simpa using hl) (fun i q1 q2=>hf (i+1) (by simpa using q1) (by simpa using q2)) hr
    change (match runD G cI b0 ((ka,a)::(pre++os)) (setD t b.dst v) H1 with | some (t',H'',fs)=>some (t',H'',f1::fs) | none=>none)=_
    rw [this]
    rfl
theorem reorderD {b0:Nat} (at_:Nat→Nat×ROp) (F:Nat→FP) {t':List AV} {H':List Obj}:∀ (π L:List Nat) (t:List AV) (H:List Obj),L.Perm π→L.Pairwise (· < ·)→
 π.Pairwise (fun a b=>b < a→freeSlots (at_ b).2 (at_ a).2=true∧disj (F b) (F a)=true)→
 runD G cI b0 (L.map at_) t H=some (t',H',L.map F)→runD G cI b0 (π.map at_) t H=some (t',H',π.map F):=by
 intro π
 induction π with
 | nil=>intro L t H hp _ _ h;rw [List.Perm.eq_nil hp] at h;exact h
 | cons i π ih=>
  intro L t H hp hs hπ h
  obtain ⟨L1,L2,rfl⟩:=List.append_of_mem (hp.mem_iff.2 (by simp:i∈i::π))
  have hp':(L1++L2).Perm π:=(List.Perm.cons_inv ((List.perm_middle (a:=i)).symm.trans hp))
  rw [List.map_append,List.map_append,List.map_cons,List.map_cons] at h
  have hlt:∀ b∈L1,b < i:=by
   intro b hb
   exact (List.pairwise_append.1 hs).2.2 b hb i (by simp)
  have h2:=frontD G cI (ka:=(at_ i).1) (a:=(at_ i).2) (fa:=F i) (os:=L2.map at_) (L1.map at_) (L1.map F) t H (by simp) (by
   intro j h1 h2
   simp only [List.getElem_map]
   have hm:L1[j]'(by simpa using h1)∈L1:=List.getElem_mem _
   exact (List.pairwise_cons.1 hπ).1 _ (hp'.mem_iff.1 (by simp [hm])) (hlt _ hm)) h
  rw [List.map_cons,List.map_cons]
  have hat:at_ i=((at_ i).1,(at_ i).2):=rfl
  rw [hat,runD]
  rw [runD] at h2
  cases ha:actD G cI (b0+(at_ i).1) (at_ i).2 t H with
  | none=>rw [ha] at h2;simp at h2
  | some x=>
   obtain ⟨v,H1,f1⟩:=x
   rw [ha] at h2
   dsimp only at h2 ⊢
   split at h2
   case h_2=>simp at h2
   rename_i t1 H2 fs1 hr
   simp only [Option.some.injEq,Prod.mk.injEq,List.cons.injEq] at h2
   obtain ⟨rfl,rfl,rfl,rfl⟩:=h2
   rw [ih (L1++L2) _ _ hp' (hs.sublist (by simp)) (List.pairwise_cons.1 hπ).2 (by rw [List.map_append,List.map_append];exact hr)]
theorem runD_length {b0:Nat}:∀ (l:List (Nat×ROp)) (t t':List AV) (H H':List Obj) (fs:List FP),runD G cI b0 l t H=some (t',H',fs)→fs.length=l.length:=by
 intro l
 induction l with
 | nil=>intro t t' H H' fs h;simp [runD] at h;simp [←h.2.2]
 | cons o l ih=>
  intro t t' H H' fs h
  obtain ⟨k,o⟩:=o
  rw [runD] at h
  split at h
  case h_2=>simp at h
  split at h
  case h_2=>simp at h
  rename_i hr
  simp only [Option.some.injEq,Prod.mk.injEq] at h
  obtain ⟨_,_,rfl⟩:=h
  simp [ih _ _ _ _ _ hr]
theorem runD_kind {b0:Nat}:∀ (l:List (Nat×ROp)) (t t':List AV) (H H':List Obj) (fs:List FP),runD G cI b0 l t H=some (t',H',fs)→
 ∀ i (h1:i < l.length) (h2:i < fs.length),(l[i].2.op.kind= .pure→fs[i]={})∧(l[i].2.op.kind≠ .write→fs[i].w=[])∧(l[i].2.op.kind= .write→fs[i].all=false)∧(l[i].2.op.kind= .read→fs[i].all=false):=by
 intro l
 induction l with
 | nil=>intro t t' H H' fs _ i h1;simp at h1
 | cons o l ih=>
  intro t t' H H' fs h i h1 h2
  obtain ⟨k,o⟩:=o
  rw [runD] at h
  split at h
  case h_2=>simp at h
  rename_i v H1 f ha
  split at h
  case h_2=>simp at h
  rename_i hr
  simp only [Option.some.injEq,Prod.mk.injEq] at h
  obtain ⟨_,_,rfl⟩:=h
  cases i with
  | succ i=>exact ih _ _ _ _ _ hr i (by simpa using h1) (by simpa using h2)
  | zero=>
   simp only [List.getElem_cons_zero]
   unfold actD at ha
   split at ha
   ·split at ha
    case isFalse=>simp at ha
    split at ha
    case h_2=>simp at ha
    simp only [Option.some.injEq,Prod.mk.injEq] at ha
    obtain ⟨_,_,rfl⟩:=ha
    refine ⟨fun hk=>fp_pure G hk,fun hk=>?_,fun hk=>fp_write G hk,fun hk=>(fp_read G hk).2⟩
    cases hk':o.op.kind with
    | pure=>rw [fp_pure G hk']
    | read=>exact (fp_read G hk').1
    | call=>exact fp_call G hk'
    | write=>exact (hk hk').elim
   ·simp only [Option.some.injEq,Prod.mk.injEq] at ha
    obtain ⟨_,_,rfl⟩:=ha
    exact ⟨fun _=>rfl,fun _=>rfl,fun _=>rfl,fun _=>rfl⟩
   ·simp at ha
theorem disj_symm {a b:FP} (h:disj a b=true):disj b a=true:=by
 simp only [disj,Bool.and_eq_true,noneOf_iff] at h ⊢
 obtain ⟨⟨⟨⟨d1,d2⟩,d3⟩,d4⟩,d5⟩:=h
 exact ⟨⟨⟨⟨d3,fun x hx hx'=>d2 x hx' hx⟩,d1⟩,d5⟩,d4⟩
theorem ord_anyD {b0:Nat} {ops:Array Oper} {l:List (Nat×ROp)} {ps:List (Nat×Nat)} {π:List Nat} (ho:Ord ops l.length π)
 (hp:pairsOkW (before ops).toList (l.map (·.2)) ps=true) {t t':List AV} {H H':List Obj} {fs:List FP}
 (h:runD G cI b0 l t H=some (t',H',fs)) (hps:pairsDisj fs ps=true):
 ∃ fs',runD G cI b0 (π.map fun i=>l.getD i (0,default)) t H=some (t',H',fs'):=by
 have hfl:=runD_length G cI _ _ _ _ _ _ h
 have hkd:=runD_kind G cI _ _ _ _ _ _ h
 have e1:(List.range l.length).map (fun i=>l.getD i (0,default))=l:=by
  apply List.ext_getElem
  ·simp
  ·intro i h1 h2;simp at h1;simp [List.getD,h1]
 have e2:(List.range l.length).map (fun i=>fs.getD i {})=fs:=by
  apply List.ext_getElem
  ·simp [hfl]
  ·intro i h1 h2;simp at h1;simp [List.getD,h2]
 refine ⟨_,reorderD G cI (fun i=>l.getD i (0,default)) (fun i=>fs.getD i {}) π (List.range l.length) t H ?_ ?_ ?_ (by rw [e1,e2];exact h)⟩
 ·refine (List.perm_ext_iff_of_nodup List.nodup_range ho.nodup).2 fun i=>?_
  rw [ho.mem,List.mem_range]
 ·exact List.pairwise_lt_range
 ·refine ho.pair.imp_of_mem fun {a b} ha hb hab hlt=>?_
  have hasz:a < l.length:=(ho.mem a).1 ha
  have hbsz:b < l.length:=by omega
  have h1:=List.all_eq_true.1 (List.all_eq_true.1 hp a (List.mem_range.2 (by simpa using hasz))) b (List.mem_range.2 hlt)
  rw [List.getElem?_map,List.getElem?_map,List.getElem?_eq_getElem hasz,List.getElem?_eq_getElem hbsz,hab] at h1
  simp only [Bool.false_or,Option.map_some,Bool.and_eq_true,Bool.or_eq_true] at h1
  obtain ⟨h1,h2⟩:=h1
  have haf:a < fs.length:=by omega
  have hbf:b < fs.length:=by omega
  simp only [List.getD,List.getElem?_eq_getElem hasz,List.getElem?_eq_getElem hbsz,List.getElem?_eq_getElem haf,List.getElem?_eq_getElem hbf,Option.getD_some]
  refine ⟨h1,?_⟩
  obtain ⟨a1,a2,a3,a4⟩:=hkd a hasz haf
  obtain ⟨b1,b2,b3,b4⟩:=hkd b hbsz hbf
  rcases h2 with h2 | h2
  ·have empty:∀ (x:FP),disj {} x=true:=by intro x;simp [disj,noneOf]
   have empty':∀ (x:FP),disj x {}=true:=fun x=>disj_symm (empty x)
   have rr:∀ (x y:FP),x.w=[]→y.w=[]→disj x y=true:=by intro x y hx hy;simp [disj,noneOf,hx,hy]
   cases hka:l[a].2.op.kind<;>cases hkb:l[b].2.op.kind<;>simp only [hka,hkb,freeKind] at h2 a1 a2 a3 a4 b1 b2 b3 b4
   all_goals first
    | (exact absurd h2 Bool.false_ne_true)
    | (rw [a1 trivial];exact empty' _)
    | (rw [b1 trivial];exact empty _)
    | (exact rr _ _ (b2 Kind.noConfusion) (a2 Kind.noConfusion))
  ·have:=List.all_eq_true.1 hps (b,a) (by simpa using h2)
   simpa [List.getD,List.getElem?_eq_getElem haf,List.getElem?_eq_getElem hbf] using this
theorem drawOkW_ord {ops:Array Oper} {rops:List ROp} {ps:List (Nat×Nat)} (hd:drawOkW ops rops ps=true) (mixed:Bool) (τ:Nat):Ord ops ops.size (schedule mixed ops τ):=by
 simp only [drawOkW,Bool.and_eq_true] at hd
 obtain ⟨⟨⟨h1,h2⟩,h3⟩,_⟩:=hd
 exact sched_ord h1 h2 h3 mixed τ
theorem drawOkW_pairs {ops:Array Oper} {rops:List ROp} {ps:List (Nat×Nat)} (hd:drawOkW ops rops ps=true):pairsOkW (before ops).toList rops ps=true:=by
 simp only [drawOkW,Bool.and_eq_true] at hd
 exact hd.2
end
end Go.Am
