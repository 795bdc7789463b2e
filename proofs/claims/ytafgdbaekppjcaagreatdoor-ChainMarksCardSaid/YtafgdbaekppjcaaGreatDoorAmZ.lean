/- The abstract machine with its slots in a tree, which the kernel runs faster: what it computes, the machine computes. No condition. -/
import Derived.Test.YtafgdbaekppjcaaGreatDoorAmY
set_option linter.unusedSectionVars false
set_option linter.unusedVariables false
set_option linter.unusedSimpArgs false
namespace Go.Am
theorem xx (n:Nat) (l:List AV):AV.aS n l=true↔∀ i,(l.getD i .any).bA n=true:=by
 induction l with
 | nil=>simp [AV.aS,AV.bA]
 | cons x l ih=>
  simp only [AV.aS,Bool.and_eq_true,ih];constructor
  ·rintro ⟨h1,h2⟩ i
   cases i with
   | zero=>simpa [List.getD] using h1
   | succ i=>simpa [List.getD] using h2 i
  ·intro h;exact ⟨by simpa [List.getD] using h 0,fun i=>by simpa [List.getD] using h (i+1)⟩
def cy (ev:RX->AV):RO->Option AV
 | .DZ x=>some (ev x)
 | .pick c a b=>(match ev c with | .bool true=>some (ev a) | .bool false=>some (ev b) | _=>none)
 | .build z parts=>(match mc z (parts.map fun (o,n,x)=>(o,n,ev x)) with | some cs=>some (.agg cs) | none=>none)
 | .bin op x y=>bin op (ev x) (ev y)
 | .un op x=>un op (ev x)
 | .Aa neg ks x y=>Aa neg ks (ev x) (ev y)
 | .D0 neg x y=>D0 neg (ev x) (ev y)
 | .D1 neg x y=>D1 neg (ev x) (ev y)
 | .oh x=>oh (ev x)
 | .conv k x=>(match ev x with | .int _ n=>some (.int k (k.wrap n)) | _=>none)
 | .Ol off n ag x=>(match ev x with | .agg cs=>part n ag cs off | _=>none)
 | .sX off x=>sX off (ev x)
 | .kN len sz x i=>kN len sz (ev x) (ev i)
 | .lW len n ag x i=>lW len n ag (ev x) (ev i)
 | .nN x i=>nN (ev x) (ev i)
 | .nO x lo hi=>nO (ev x) (lo.map ev) (hi.map ev)
 | .Lx f cap=>some (.fn f (cap.map ev))
 | .Om f l=>some (.bL f (l.map ev))
 | .len st x=>(match pB st (ev x) with | some n=>some (.int .i64 n) | none=>none)
 | .mn l=>(match l.map ev with | x::r=>iT min2 x r | []=>none)
 | .mx l=>(match l.map ev with | x::r=>iT max2 x r | []=>none)
 | .ext x i=>(match ev x with | .bk vs=>vs[i]? | _=>none)
 | .FA x=>FA (ev x)
 | .CP x=>(match ev x with | .bx=>some (.int .i64 0) | _=>none)
 | _=>none
def dG (ev:RX->AV) (H:List Obj):RO->Option AV
 | .load n ag a=>loadAt H n ag (ev a)
 | .iu sz x i=>iu H sz (ev x) (ev i)
 | .slc sz x lo hi=>slc H sz (ev x) (lo.map ev) (hi.map ev)
 | .yz neg x y=>yz H neg (ev x) (ev y)
 | .j7 len sz x lo hi=>j7 H len sz (ev x) (lo.map ev) (hi.map ev)
 | _=>none
def cW (ev:RX->AV) (H:List Obj) (pl:Nat):RO->Option (AV×List Obj)
 | .box x=>if aX (ev x).cells=true then some (.ax pl 1 0 0,putObj H pl (.live .norm (ev x).cells.length [(ev x).cells])) else none
 | .alloc z=>if aX z=true then some (.ax pl 1 0 0,putObj H pl (.live .norm z.length [z])) else none
 | .sY sz z len parts=>
  if z.length=sz/\aX z=true/\len*sz<=2 ^ 24 then
   (match jF sz (List.replicate len z) (parts.map fun (i,x)=>(i,ev x)) with
    | some es=>some (.own pl len 0 len,putObj H pl (.live .norm sz es))
    | none=>none)
  else none
 | .store n a x=>(match storeAt H n (ev a) (ev x) with | some H'=>some (.bk [],H') | none=>none)
 | .D2 sz z bytes l c=>
  (match ev l,ev c with
   | .int .i64 n,.int .i64 m=>if n=m/\0<=n/\n*bytes<=2 ^ 40/\n<=2 ^ 40/\z.length=sz/\aX z=true then
    some (.own pl n.toNat 0 n.toNat,putObj H pl (.live .norm sz (List.replicate n.toNat z))) else none
   | _,_=>none)
 | .app sz bytes s x=>append H pl sz bytes (ev s) (ev x)
 | .yM z len parts=>
  if z.length=1/\aX z=true/\len*1<=2 ^ 24 then
   (match jF 1 (List.replicate len z) (parts.map fun (i,x)=>(i,ev x)) with
    | some es=>if AV.bM 0 es=true then some (.ro es,H) else none
    | none=>none)
  else none
 | .qL sz z bytes s n=>
  (match ev s,ev n with
   | .bx,.int .i64 m=>if 0 < m/\m*bytes<=2 ^ 40/\m<=2 ^ 40/\z.length=sz/\aX z=true then
    some (.own pl m.toNat 0 m.toNat,putObj H pl (.live .norm sz (List.replicate m.toNat z))) else none
   | _,_=>none)
 | .FB=>some (.mp pl,putObj H pl (.mp []))
 | .hY k m x v=>(match hY H k (ev m) (ev x) (ev v) with | some H'=>some (.bk [],H') | none=>none)
 | .Cq x=>(match ev x with | .str s=>some (.oZ pl,putObj H pl (.it s 0)) | _=>none)
 | .sK x=>sK H (ev x)
 | .ia k z ok m x=>(match ia H k z ok (ev m) (ev x) with | some v=>some (v,H) | none=>none)
 | .iP m=>(match iP H (ev m) with | some v=>some (v,H) | none=>none)
 | .z6 x=>(match z6 H (ev x) with | some v=>some (v,H) | none=>none)
 | _=>none
def lF (ev:RX->AV) (pl:Nat):RO->FP
 | .load _ _ a=>{ r:=refs (ev a) }
 | .iu _ x _=>{ r:=refs (ev x) }
 | .slc _ x _ _=>{ r:=refs (ev x) }
 | .j7 _ _ x _ _=>{ r:=refs (ev x) }
 | .yz _ x y=>{ r:=refs (ev x)++refs (ev y) }
 | .box _=>{ w:=[pl] }
 | .alloc _=>{ w:=[pl] }
 | .sY ..=>{ w:=[pl] }
 | .lQ ..=>{ w:=[pl] }
 | .D2 ..=>{ w:=[pl] }
 | .store _ a _=>{ w:=refs (ev a) }
 | .app _ _ s x=>{ r:=refs (ev x),w:=pl::refs (ev s) }
 | .kO _ _ s x=>{ r:=refs (ev x),w:=pl::refs (ev s) }
 | .qL ..=>{ w:=[pl] }
 | .qH _ args=>{ r:=(args.map ev).flatMap refs,w:=[pl] }
 | .ia _ _ _ m _=>{ r:=refs (ev m) }
 | .iP m=>{ r:=refs (ev m) }
 | .z6 x=>{ r:=refs (ev x) }
 | .FB=>{ w:=[pl] }
 | .hY _ m _ _=>{ w:=refs (ev m) }
 | .Cq _=>{ w:=[pl] }
 | .sK x=>{ w:=refs (ev x) }
 | .call _ args=>{ r:=(args.map ev).flatMap refs }
 | .fJ f args=>{ all:= !((ev f).bA 0&&AV.aS 0 (args.map ev)) }
 | _=>{}
def bY (ev:RX->AV) (hp:Nat->Bool) (cI:CI) (cH:CH) (pl:Nat) (x:RO) (H:List Obj):Option (AV×List Obj):=
 match x.kind with
 | .pure=>(match cy ev x with | some v=>some (v,H) | none=>none)
 | .read=>(match dG ev H x with | some v=>some (v,H) | none=>none)
 | .write=>cW ev H pl x
 | .call=>
  match x with
  | .call f args=>bI hp cI cH f (args.map ev) H
  | .fJ fx args=>(match ev fx with | .fn f cap=>bI hp cI cH f (args.map ev++cap) H | .bL f l=>bI hp cI cH f (l++args.map ev) H | .eI l=>cH none (.eI l::args.map ev) H | _=>none)
  | _=>none
def eZ (ev:RX->AV) (cI:CI) (pl:Nat) (x:RO) (H:List Obj):Option (AV×List Obj):=
 match x with
 | .qH f args=>mkObj cI f (args.map ev) pl H
 | .kO sz bytes a b=>eA (pl::refs (ev a)) (cW ev H pl (.app sz bytes a b))
 | .lQ sz z len parts=>eA [pl] (cW ev H pl (.sY sz z len parts))
 | .call f args=>if kV H (args.map ev)=true then bY ev (fun _=>false) cI (fun _ _ _=>none) pl (.call f args) H else none
 | x=>bY ev (fun _=>false) cI (fun _ _ _=>none) pl x H
theorem Mz (G:Nat->List AV) (t:List AV) (x:RO):aP G t x=cy (RX.ev G t) x:=by cases x<;>rfl
theorem EC (G:Nat->List AV) (t:List AV) (H:List Obj) (x:RO):aQ G t H x=dG (RX.ev G t) H x:=by cases x<;>rfl
theorem MA (G:Nat->List AV) (t:List AV) (H:List Obj) (pl:Nat) (x:RO):evalW G t H pl x=cW (RX.ev G t) H pl x:=by cases x<;>rfl
theorem Q9 (G:Nat->List AV) (t:List AV) (pl:Nat) (x:RO):dZ G t pl x=lF (RX.ev G t) pl x:=by cases x<;>rfl
theorem p8 (G:Nat->List AV) (hp:Nat->Bool) (cI:CI) (cH:CH) (pl:Nat) (x:RO) (t:List AV) (H:List Obj):evalOp G hp cI cH pl x t H=bY (RX.ev G t) hp cI cH pl x H:=by
 unfold evalOp bY;rw [Mz,EC,MA]
 cases x.kind with
 | call=>dsimp only;cases x<;>rfl
 | _=>rfl
theorem MB (G:Nat->List AV) (cI:CI) (pl:Nat) (x:RO) (t:List AV) (H:List Obj):eW G cI pl x t H=eZ (RX.ev G t) cI pl x H:=by
 cases x<;>first | rfl | exact p8 .. | (simp only [eW,eZ];rw [p8];rfl)
def P5 {α:Type} (n:Int) (k:Int->α):α:=
 match n with
 | .ofNat 0=>k 0
 | .ofNat (m+1)=>k (.ofNat (m+1))
 | .negSucc 0=>k (.negSucc 0)
 | .negSucc (m+1)=>k (.negSucc (m+1))
theorem MC {α:Type} (n:Int) (k:Int->α):P5 n k=k n:=by
 unfold P5;split<;>rfl
def GQ {α:Type} (v:AV) (k:AV->α):α:=
 match v with
 | .int kd n=>P5 n fun m=>k (.int kd m)
 | .bool true=>k (.bool true)
 | .bool false=>k (.bool false)
 | v=>k v
theorem dH {α:Type} (v:AV) (k:AV->α):GQ v k=k v:=by
 unfold GQ;split<;>simp [MC]
def CI.le (a b:CI):Prop:=∀ f xs r,a f xs=some r->b f xs=some r
def CH.le (a b:CH):Prop:=∀ f xs H r,a f xs H=some r->b f xs H=some r
theorem nq {hp:Nat->Bool} {a b:CI} {c d:CH} (h1:a.le b) (h2:c.le d) {f:Nat} {args:List AV} {H:List Obj} {r} (h:bI hp a c f args H=some r):bI hp b d f args H=some r:=by
 unfold bI at h ⊢;split at h
 ·rename_i hh;rw [if_pos hh];exact h2 _ _ _ _ h
 ·rename_i hh;rw [if_neg hh];split at h
  ·rename_i ys hys;split at h
   ·rename_i v hv;rw [h1 _ _ _ hv];exact h
   ·simp at h
  ·exact h2 _ _ _ _ h
theorem fC {ev:RX->AV} {hp:Nat->Bool} {a b:CI} {c d:CH} (h1:a.le b) (h2:c.le d) {pl:Nat} {x:RO} {H:List Obj} {r} (h:bY ev hp a c pl x H=some r):bY ev hp b d pl x H=some r:=by
 unfold bY at h ⊢
 cases hk:x.kind with
 | call=>
  rw [hk] at h;dsimp only at h ⊢;split at h
  ·exact nq h1 h2 h
  ·split at h
   ·exact nq h1 h2 h
   ·exact nq h1 h2 h
   ·exact h2 _ _ _ _ h
   ·simp at h
  ·simp at h
 | _=>rw [hk] at h;exact h
theorem Jn {a b:CI} (h1:a.le b) {f:Nat} {as:List AV} {pl:Nat} {H:List Obj} {r} (h:mkObj a f as pl H=some r):mkObj b f as pl H=some r:=by
 unfold mkObj at h ⊢;split at h
 case h_2=>simp at h
 split at h
 case h_2=>simp at h
 rename_i hc;rw [h1 _ _ _ hc];exact h
theorem xy {ev:RX->AV} {a b:CI} (h1:a.le b) {pl:Nat} {x:RO} {H:List Obj} {r} (h:eZ ev a pl x H=some r):eZ ev b pl x H=some r:=by
 cases x<;>simp only [eZ] at h ⊢<;>first | exact h | exact Jn h1 h | (split at h;rename_i hc;rw [if_pos hc];exact fC h1 (fun _ _ _ _ h=>h) h;simp at h) | exact fC h1 (fun _ _ _ _ h=>h) h
end Go.Am
