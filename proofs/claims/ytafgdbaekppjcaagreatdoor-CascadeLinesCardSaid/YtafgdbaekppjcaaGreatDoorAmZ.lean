/- The abstract machine with its slots in a tree, which the kernel runs faster: what it computes, the machine computes. No condition. -/
import Derived.Test.YtafgdbaekppjcaaGreatDoorAmXa
set_option linter.unusedSectionVars false
set_option linter.unusedVariables false
set_option linter.unusedSimpArgs false
namespace Go.Am
theorem bels_iffL (n:Nat) (l:List AV):AV.bels n l=true↔∀ i,(l.getD i .any).bel n=true:=by
 induction l with
 | nil=>simp [AV.bels,AV.bel]
 | cons x l ih=>
  simp only [AV.bels,Bool.and_eq_true,ih]
  constructor
  ·rintro ⟨h1,h2⟩ i
   cases i with
   | zero=>simpa [List.getD] using h1
   | succ i=>simpa [List.getD] using h2 i
  ·intro h
   exact ⟨by simpa [List.getD] using h 0,fun i=>by simpa [List.getD] using h (i+1)⟩
def evalPe (ev:RX→AV):RO→Option AV
 | .mov x=>some (ev x)
 | .pick c a b=>(match ev c with | .bool true=>some (ev a) | .bool false=>some (ev b) | _=>none)
 | .build z parts=>(match fillA z (parts.map fun (o,n,x)=>(o,n,ev x)) with | some cs=>some (.agg cs) | none=>none)
 | .bin op x y=>bin op (ev x) (ev y)
 | .un op x=>un op (ev x)
 | .eqA neg ks x y=>eqA neg ks (ev x) (ev y)
 | .eqB neg x y=>eqB neg (ev x) (ev y)
 | .eqP neg x y=>eqP neg (ev x) (ev y)
 | .nchk x=>nchk (ev x)
 | .conv k x=>(match ev x with | .int _ n=>some (.int k (k.wrap n)) | _=>none)
 | .fld off n ag x=>(match ev x with | .agg cs=>part n ag cs off | _=>none)
 | .fad off x=>fad off (ev x)
 | .iadA len sz x i=>iadA len sz (ev x) (ev i)
 | .idxA len n ag x i=>idxA len n ag (ev x) (ev i)
 | .idxS x i=>idxS (ev x) (ev i)
 | .slcS x lo hi=>slcS (ev x) (lo.map ev) (hi.map ev)
 | .mkf f cap=>some (.fn f (cap.map ev))
 | .mkb f l=>some (.bnd f (l.map ev))
 | .len st x=>(match lenOp st (ev x) with | some n=>some (.int .i64 n) | none=>none)
 | .mn l=>(match l.map ev with | x::r=>foldO min2 x r | []=>none)
 | .mx l=>(match l.map ev with | x::r=>foldO max2 x r | []=>none)
 | .ext x i=>(match ev x with | .tup vs=>vs[i]? | _=>none)
 | .i2s x=>i2s (ev x)
 | .capn x=>(match ev x with | .nils=>some (.int .i64 0) | _=>none)
 | _=>none
def evalRe (ev:RX→AV) (H:List Obj):RO→Option AV
 | .load n ag a=>loadAt H n ag (ev a)
 | .iadS sz x i=>iadS H sz (ev x) (ev i)
 | .slc sz x lo hi=>slc H sz (ev x) (lo.map ev) (hi.map ev)
 | .eqN neg x y=>eqN H neg (ev x) (ev y)
 | .slcA len sz x lo hi=>slcA H len sz (ev x) (lo.map ev) (hi.map ev)
 | _=>none
def evalWe (ev:RX→AV) (H:List Obj) (pl:Nat):RO→Option (AV×List Obj)
 | .box x=>if allOne (ev x).cells=true then some (.pown pl 1 0 0,putObj H pl (.live .norm (ev x).cells.length [(ev x).cells])) else none
 | .alloc z=>if allOne z=true then some (.pown pl 1 0 0,putObj H pl (.live .norm z.length [z])) else none
 | .bsl sz z len parts=>
  if z.length=sz∧allOne z=true∧len*sz≤2 ^ 24 then
   (match fillS sz (List.replicate len z) (parts.map fun (i,x)=>(i,ev x)) with
    | some es=>some (.own pl len 0 len,putObj H pl (.live .norm sz es))
    | none=>none)
  else none
 | .store n a x=>(match storeAt H n (ev a) (ev x) with | some H'=>some (.tup [],H') | none=>none)
 | .mks sz z bytes l c=>
  (match ev l,ev c with
   | .int .i64 n,.int .i64 m=>if n=m∧0≤n∧n*bytes≤2 ^ 40∧n≤2 ^ 40∧z.length=sz∧allOne z=true then
    some (.own pl n.toNat 0 n.toNat,putObj H pl (.live .norm sz (List.replicate n.toNat z))) else none
   | _,_=>none)
 | .app sz bytes s x=>append H pl sz bytes (ev s) (ev x)
 | .bslr z len parts=>
  if z.length=1∧allOne z=true∧len*1≤2 ^ 24 then
   (match fillS 1 (List.replicate len z) (parts.map fun (i,x)=>(i,ev x)) with
    | some es=>if AV.belss 0 es=true then some (.ro es,H) else none
    | none=>none)
  else none
 | .appn sz z bytes s n=>
  (match ev s,ev n with
   | .nils,.int .i64 m=>if 0 < m∧m*bytes≤2 ^ 40∧m≤2 ^ 40∧z.length=sz∧allOne z=true then
    some (.own pl m.toNat 0 m.toNat,putObj H pl (.live .norm sz (List.replicate m.toNat z))) else none
   | _,_=>none)
 | .mkm=>some (.mp pl,putObj H pl (.mp []))
 | .mset k m x v=>(match mset H k (ev m) (ev x) (ev v) with | some H'=>some (.tup [],H') | none=>none)
 | .rng x=>(match ev x with | .str s=>some (.itr pl,putObj H pl (.it s 0)) | _=>none)
 | .nxt x=>nxt H (ev x)
 | .mget k z ok m x=>(match mget H k z ok (ev m) (ev x) with | some v=>some (v,H) | none=>none)
 | .mlen m=>(match mlen H (ev m) with | some v=>some (v,H) | none=>none)
 | .b2s x=>(match b2s H (ev x) with | some v=>some (v,H) | none=>none)
 | _=>none
def fpOfe (ev:RX→AV) (pl:Nat):RO→FP
 | .load _ _ a=>{ r:=refs (ev a) }
 | .iadS _ x _=>{ r:=refs (ev x) }
 | .slc _ x _ _=>{ r:=refs (ev x) }
 | .slcA _ _ x _ _=>{ r:=refs (ev x) }
 | .eqN _ x y=>{ r:=refs (ev x)++refs (ev y) }
 | .box _=>{ w:=[pl] }
 | .alloc _=>{ w:=[pl] }
 | .bsl ..=>{ w:=[pl] }
 | .bslf ..=>{ w:=[pl] }
 | .mks ..=>{ w:=[pl] }
 | .store _ a _=>{ w:=refs (ev a) }
 | .app _ _ s x=>{ r:=refs (ev x),w:=pl::refs (ev s) }
 | .appf _ _ s x=>{ r:=refs (ev x),w:=pl::refs (ev s) }
 | .appn ..=>{ w:=[pl] }
 | .mkc _ args=>{ r:=(args.map ev).flatMap refs,w:=[pl] }
 | .mget _ _ _ m _=>{ r:=refs (ev m) }
 | .mlen m=>{ r:=refs (ev m) }
 | .b2s x=>{ r:=refs (ev x) }
 | .mkm=>{ w:=[pl] }
 | .mset _ m _ _=>{ w:=refs (ev m) }
 | .rng _=>{ w:=[pl] }
 | .nxt x=>{ w:=refs (ev x) }
 | .call _ args=>{ r:=(args.map ev).flatMap refs }
 | .callv f args=>{ all:= !((ev f).bel 0&&AV.bels 0 (args.map ev)) }
 | _=>{}
def evalOpe (ev:RX→AV) (hp:Nat→Bool) (cI:CI) (cH:CH) (pl:Nat) (x:RO) (H:List Obj):Option (AV×List Obj):=
 match x.kind with
 | .pure=>(match evalPe ev x with | some v=>some (v,H) | none=>none)
 | .read=>(match evalRe ev H x with | some v=>some (v,H) | none=>none)
 | .write=>evalWe ev H pl x
 | .call=>
  match x with
  | .call f args=>doCall hp cI cH f (args.map ev) H
  | .callv fx args=>(match ev fx with | .fn f cap=>doCall hp cI cH f (args.map ev++cap) H | .bnd f l=>doCall hp cI cH f (l++args.map ev) H | .yld l=>cH none (.yld l::args.map ev) H | _=>none)
  | _=>none
def evalDe (ev:RX→AV) (cI:CI) (pl:Nat) (x:RO) (H:List Obj):Option (AV×List Obj):=
 match x with
 | .mkc f args=>mkObj cI f (args.map ev) pl H
 | .appf sz bytes a b=>frzRes (pl::refs (ev a)) (evalWe ev H pl (.app sz bytes a b))
 | .bslf sz z len parts=>frzRes [pl] (evalWe ev H pl (.bsl sz z len parts))
 | .call f args=>if lentOk H (args.map ev)=true then evalOpe ev (fun _=>false) cI (fun _ _ _=>none) pl (.call f args) H else none
 | x=>evalOpe ev (fun _=>false) cI (fun _ _ _=>none) pl x H
theorem evalP_e (G:Nat→List AV) (t:List AV) (x:RO):evalP G t x=evalPe (RX.ev G t) x:=by cases x<;>rfl
theorem evalR_e (G:Nat→List AV) (t:List AV) (H:List Obj) (x:RO):evalR G t H x=evalRe (RX.ev G t) H x:=by cases x<;>rfl
theorem evalW_e (G:Nat→List AV) (t:List AV) (H:List Obj) (pl:Nat) (x:RO):evalW G t H pl x=evalWe (RX.ev G t) H pl x:=by cases x<;>rfl
theorem fpOf_e (G:Nat→List AV) (t:List AV) (pl:Nat) (x:RO):fpOf G t pl x=fpOfe (RX.ev G t) pl x:=by cases x<;>rfl
theorem evalOp_e (G:Nat→List AV) (hp:Nat→Bool) (cI:CI) (cH:CH) (pl:Nat) (x:RO) (t:List AV) (H:List Obj):evalOp G hp cI cH pl x t H=evalOpe (RX.ev G t) hp cI cH pl x H:=by
 unfold evalOp evalOpe
 rw [evalP_e,evalR_e,evalW_e]
 cases x.kind with
 | call=>dsimp only;cases x<;>rfl
 | _=>rfl
theorem evalD_e (G:Nat→List AV) (cI:CI) (pl:Nat) (x:RO) (t:List AV) (H:List Obj):evalD G cI pl x t H=evalDe (RX.ev G t) cI pl x H:=by
 cases x<;>first | rfl | exact evalOp_e .. | (simp only [evalD,evalDe];rw [evalOp_e];rfl)
def frcI {α:Type} (n:Int) (k:Int→α):α:=
 match n with
 | .ofNat 0=>k 0
 | .ofNat (m+1)=>k (.ofNat (m+1))
 | .negSucc 0=>k (.negSucc 0)
 | .negSucc (m+1)=>k (.negSucc (m+1))
theorem frcI_eq {α:Type} (n:Int) (k:Int→α):frcI n k=k n:=by
 unfold frcI;split<;>rfl
def frc {α:Type} (v:AV) (k:AV→α):α:=
 match v with
 | .int kd n=>frcI n fun m=>k (.int kd m)
 | .bool true=>k (.bool true)
 | .bool false=>k (.bool false)
 | v=>k v
theorem frc_eq {α:Type} (v:AV) (k:AV→α):frc v k=k v:=by
 unfold frc;split<;>simp [frcI_eq]
def CI.le (a b:CI):Prop:=∀ f xs r,a f xs=some r→b f xs=some r
def CH.le (a b:CH):Prop:=∀ f xs H r,a f xs H=some r→b f xs H=some r
theorem doCall_le {hp:Nat→Bool} {a b:CI} {c d:CH} (h1:a.le b) (h2:c.le d) {f:Nat} {args:List AV} {H:List Obj} {r} (h:doCall hp a c f args H=some r):doCall hp b d f args H=some r:=by
 unfold doCall at h ⊢
 split at h
 ·rename_i hh;rw [if_pos hh];exact h2 _ _ _ _ h
 ·rename_i hh
  rw [if_neg hh]
  split at h
  ·rename_i ys hys
   split at h
   ·rename_i v hv
    rw [h1 _ _ _ hv];exact h
   ·simp at h
  ·exact h2 _ _ _ _ h
theorem evalOpe_le {ev:RX→AV} {hp:Nat→Bool} {a b:CI} {c d:CH} (h1:a.le b) (h2:c.le d) {pl:Nat} {x:RO} {H:List Obj} {r} (h:evalOpe ev hp a c pl x H=some r):evalOpe ev hp b d pl x H=some r:=by
 unfold evalOpe at h ⊢
 cases hk:x.kind with
 | call=>
  rw [hk] at h;dsimp only at h ⊢
  split at h
  ·exact doCall_le h1 h2 h
  ·split at h
   ·exact doCall_le h1 h2 h
   ·exact doCall_le h1 h2 h
   ·exact h2 _ _ _ _ h
   ·simp at h
  ·simp at h
 | _=>rw [hk] at h;exact h
theorem mkObj_le {a b:CI} (h1:a.le b) {f:Nat} {as:List AV} {pl:Nat} {H:List Obj} {r} (h:mkObj a f as pl H=some r):mkObj b f as pl H=some r:=by
 unfold mkObj at h ⊢
 split at h
 case h_2=>simp at h
 split at h
 case h_2=>simp at h
 rename_i hc
 rw [h1 _ _ _ hc];exact h
theorem evalDe_le {ev:RX→AV} {a b:CI} (h1:a.le b) {pl:Nat} {x:RO} {H:List Obj} {r} (h:evalDe ev a pl x H=some r):evalDe ev b pl x H=some r:=by
 cases x<;>simp only [evalDe] at h ⊢<;>first | exact h | exact mkObj_le h1 h | (split at h;rename_i hc;rw [if_pos hc];exact evalOpe_le h1 (fun _ _ _ _ h=>h) h;simp at h) | exact evalOpe_le h1 (fun _ _ _ _ h=>h) h
end Go.Am
