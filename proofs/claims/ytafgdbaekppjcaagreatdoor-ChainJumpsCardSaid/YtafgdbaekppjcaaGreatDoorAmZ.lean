/- The abstract machine with its slots in a tree, which the kernel runs faster: what it computes, the machine computes. No condition. -/
import Derived.Test.YtafgdbaekppjcaaGreatDoorAmY
set_option linter.unusedSectionVars false
set_option linter.unusedVariables false
set_option linter.unusedSimpArgs false
namespace Go.Am
theorem zM (n:Nat) (l:List AV):AV.aR n l=true↔∀ i,(l.getD i .any).bD n=true:=by
 induction l with
 | nil=>simp [AV.aR,AV.bD]
 | cons x l ih=>
  simp only [AV.aR,za0,ih];constructor
  ·rintro ⟨h1,h2⟩ i
   cases i with
   | zero=>simpa [List.getD] using h1
   | succ i=>simpa [List.getD] using h2 i
  ·intro h;exact ⟨by simpa [List.getD] using h 0,fun i=>by simpa [List.getD] using h (i+1)⟩
def cA (ev:RX->AV):RO->Option AV
 | .Ho x=>some (ev x)
 | .pick c a b=>(match ev c with | .bool true=>some (ev a) | .bool false=>some (ev b) | _=>none)
 | .build z parts=>(match nx z (parts.map fun (o,n,x)=>(o,n,ev x)) with | some cs=>some (.agg cs) | none=>none)
 | .bin op x y=>bin op (ev x) (ev y)
 | .un op x=>un op (ev x)
 | .Cz neg ks x y=>Cz neg ks (ev x) (ev y)
 | .Hp neg x y=>Hp neg (ev x) (ev y)
 | .Hq neg x y=>Hq neg (ev x) (ev y)
 | .pJ x=>pJ (ev x)
 | .conv k x=>(match ev x with | .int _ n=>some (.int k (k.wrap n)) | _=>none)
 | .Tj off n ag x=>(match ev x with | .agg cs=>part n ag cs off | _=>none)
 | .uZ off x=>uZ off (ev x)
 | .mm len sz x i=>mm len sz (ev x) (ev i)
 | .nk len n ag x i=>nk len n ag (ev x) (ev i)
 | .oV x i=>oV (ev x) (ev i)
 | .oW x lo hi=>oW (ev x) (lo.map ev) (hi.map ev)
 | .Qk f cap=>some (.fn f (cap.map ev))
 | .Tk f l=>some (.eD f (l.map ev))
 | .len st x=>(match qP st (ev x) with | some n=>some (.int .i64 n) | none=>none)
 | .mn l=>(match l.map ev with | x::r=>jA min2 x r | []=>none)
 | .mx l=>(match l.map ev with | x::r=>jA max2 x r | []=>none)
 | .ext x i=>(match ev x with | .aY vs=>vs[i]? | _=>none)
 | .Jr x=>Jr (ev x)
 | .FE x=>(match ev x with | .bF=>some (.int .i64 0) | _=>none)
 | _=>none
def dS (ev:RX->AV) (H:List Obj):RO->Option AV
 | .load n ag a=>loadAt H n ag (ev a)
 | .jd sz x i=>jd H sz (ev x) (ev i)
 | .slc sz x lo hi=>slc H sz (ev x) (lo.map ev) (hi.map ev)
 | .AS neg x y=>AS H neg (ev x) (ev y)
 | .k8 len sz x lo hi=>k8 H len sz (ev x) (lo.map ev) (hi.map ev)
 | _=>none
def cP (ev:RX->AV) (H:List Obj) (pl:Nat):RO->Option (AV×List Obj)
 | .box x=>if aW (ev x).cells=true then some (.aJ pl 1 0 0,putObj H pl (.live .norm (ev x).cells.length [(ev x).cells])) else none
 | .alloc z=>if aW z=true then some (.aJ pl 1 0 0,putObj H pl (.live .norm z.length [z])) else none
 | .u0 sz z len parts=>
  if z.length=sz/\aW z=true/\len*sz<=2 ^ 24 then
   (match kr sz (List.replicate len z) (parts.map fun (i,x)=>(i,ev x)) with
    | some es=>some (.own pl len 0 len,putObj H pl (.live .norm sz es))
    | none=>none)
  else none
 | .store n a x=>(match storeAt H n (ev a) (ev x) with | some H'=>some (.aY [],H') | none=>none)
 | .Hr sz z bytes l c=>
  (match ev l,ev c with
   | .int .i64 n,.int .i64 m=>if n=m/\0<=n/\n*bytes<=2 ^ 40/\n<=2 ^ 40/\z.length=sz/\aW z=true then
    some (.own pl n.toNat 0 n.toNat,putObj H pl (.live .norm sz (List.replicate n.toNat z))) else none
   | _,_=>none)
 | .app sz bytes s x=>append H pl sz bytes (ev s) (ev x)
 | .A5 z len parts=>
  if z.length=1/\aW z=true/\len*1<=2 ^ 24 then
   (match kr 1 (List.replicate len z) (parts.map fun (i,x)=>(i,ev x)) with
    | some es=>if AV.bO 0 es=true then some (.ro es,H) else none
    | none=>none)
  else none
 | .sH sz z bytes s n=>
  (match ev s,ev n with
   | .bF,.int .i64 m=>if 0 < m/\m*bytes<=2 ^ 40/\m<=2 ^ 40/\z.length=sz/\aW z=true then
    some (.own pl m.toNat 0 m.toNat,putObj H pl (.live .norm sz (List.replicate m.toNat z))) else none
   | _,_=>none)
 | .Js=>some (.mp pl,putObj H pl (.mp []))
 | .gX k m x v=>(match gX H k (ev m) (ev x) (ev v) with | some H'=>some (.aY [],H') | none=>none)
 | .Fh x=>(match ev x with | .str s=>some (.qB pl,putObj H pl (.it s 0)) | _=>none)
 | .uK x=>uK H (ev x)
 | .gY k z ok m x=>(match gY H k z ok (ev m) (ev x) with | some v=>some (v,H) | none=>none)
 | .jv m=>(match jv H (ev m) with | some v=>some (v,H) | none=>none)
 | .Cs x=>(match Cs H (ev x) with | some v=>some (v,H) | none=>none)
 | _=>none
def mU (ev:RX->AV) (pl:Nat):RO->FP
 | .load _ _ a=>{ r:=refs (ev a) }
 | .jd _ x _=>{ r:=refs (ev x) }
 | .slc _ x _ _=>{ r:=refs (ev x) }
 | .k8 _ _ x _ _=>{ r:=refs (ev x) }
 | .AS _ x y=>{ r:=refs (ev x)++refs (ev y) }
 | .box _=>{ w:=[pl] }
 | .alloc _=>{ w:=[pl] }
 | .u0 ..=>{ w:=[pl] }
 | .m8 ..=>{ w:=[pl] }
 | .Hr ..=>{ w:=[pl] }
 | .store _ a _=>{ w:=refs (ev a) }
 | .app _ _ s x=>{ r:=refs (ev x),w:=pl::refs (ev s) }
 | .mo _ _ s x=>{ r:=refs (ev x),w:=pl::refs (ev s) }
 | .sH ..=>{ w:=[pl] }
 | .iD _ args=>{ r:=(args.map ev).flatMap refs,w:=[pl] }
 | .gY _ _ _ m _=>{ r:=refs (ev m) }
 | .jv m=>{ r:=refs (ev m) }
 | .Cs x=>{ r:=refs (ev x) }
 | .Js=>{ w:=[pl] }
 | .gX _ m _ _=>{ w:=refs (ev m) }
 | .Fh _=>{ w:=[pl] }
 | .uK x=>{ w:=refs (ev x) }
 | .call _ args=>{ r:=(args.map ev).flatMap refs }
 | .gf f args=>{ all:= !((ev f).bD 0&&AV.aR 0 (args.map ev)) }
 | _=>{}
def bW (ev:RX->AV) (hp:Nat->Bool) (cI:CI) (cH:CH) (pl:Nat) (x:RO) (H:List Obj):Option (AV×List Obj):=
 match x.kind with
 | .pure=>(match cA ev x with | some v=>some (v,H) | none=>none)
 | .read=>(match dS ev H x with | some v=>some (v,H) | none=>none)
 | .write=>cP ev H pl x
 | .call=>
  match x with
  | .call f args=>bJ hp cI cH f (args.map ev) H
  | .gf fx args=>(match ev fx with | .fn f cap=>bJ hp cI cH f (args.map ev++cap) H | .eD f l=>bJ hp cI cH f (l++args.map ev) H | .fA l=>cH none (.fA l::args.map ev) H | _=>none)
  | _=>none
def fF (ev:RX->AV) (cI:CI) (pl:Nat) (x:RO) (H:List Obj):Option (AV×List Obj):=
 match x with
 | .iD f args=>mkObj cI f (args.map ev) pl H
 | .mo sz bytes a b=>eL (pl::refs (ev a)) (cP ev H pl (.app sz bytes a b))
 | .m8 sz z len parts=>eL [pl] (cP ev H pl (.u0 sz z len parts))
 | .call f args=>if mC H (args.map ev)=true then bW ev (fun _=>false) cI (fun _ _ _=>none) pl (.call f args) H else none
 | x=>bW ev (fun _=>false) cI (fun _ _ _=>none) pl x H
theorem Rq (G:Nat->List AV) (t:List AV) (x:RO):aN G t x=cA (RX.ev G t) x:=by cases x<;>rfl
theorem Ie (G:Nat->List AV) (t:List AV) (H:List Obj) (x:RO):aO G t H x=dS (RX.ev G t) H x:=by cases x<;>rfl
theorem Rr (G:Nat->List AV) (t:List AV) (H:List Obj) (pl:Nat) (x:RO):evalW G t H pl x=cP (RX.ev G t) H pl x:=by cases x<;>rfl
theorem V6 (G:Nat->List AV) (t:List AV) (pl:Nat) (x:RO):ez G t pl x=mU (RX.ev G t) pl x:=by cases x<;>rfl
theorem rN (G:Nat->List AV) (hp:Nat->Bool) (cI:CI) (cH:CH) (pl:Nat) (x:RO) (t:List AV) (H:List Obj):evalOp G hp cI cH pl x t H=bW (RX.ev G t) hp cI cH pl x H:=by
 unfold evalOp bW;rw [Rq,Ie,Rr]
 cases x.kind with
 | call=>dsimp only;cases x<;>rfl
 | _=>rfl
theorem Rs (G:Nat->List AV) (cI:CI) (pl:Nat) (x:RO) (t:List AV) (H:List Obj):fB G cI pl x t H=fF (RX.ev G t) cI pl x H:=by
 cases x<;>first | rfl | exact rN .. | (simp only [fB,fF];rw [rN];rfl)
def U2 {α:Type} (n:Int) (k:Int->α):α:=
 match n with
 | .ofNat 0=>k 0
 | .ofNat (m+1)=>k (.ofNat (m+1))
 | .negSucc 0=>k (.negSucc 0)
 | .negSucc (m+1)=>k (.negSucc (m+1))
theorem Ru {α:Type} (n:Int) (k:Int->α):U2 n k=k n:=by
 unfold U2;split<;>rfl
def KL {α:Type} (v:AV) (k:AV->α):α:=
 match v with
 | .int kd n=>U2 n fun m=>k (.int kd m)
 | .bool true=>k (.bool true)
 | .bool false=>k (.bool false)
 | v=>k v
theorem dU {α:Type} (v:AV) (k:AV->α):KL v k=k v:=by
 unfold KL;split<;>simp [Ru]
def CI.le (a b:CI):Prop:=∀ f xs r,a f xs=some r->b f xs=some r
def CH.le (a b:CH):Prop:=∀ f xs H r,a f xs H=some r->b f xs H=some r
theorem oz {hp:Nat->Bool} {a b:CI} {c d:CH} (h1:a.le b) (h2:c.le d) {f:Nat} {args:List AV} {H:List Obj} {r} (h:bJ hp a c f args H=some r):bJ hp b d f args H=some r:=by
 unfold bJ at h ⊢;split at h
 ·rename_i hh;rw [if_pos hh];exact h2 _ _ _ _ h
 ·rename_i hh;rw [if_neg hh];split at h
  ·rename_i ys hys;split at h
   ·rename_i v hv;rw [h1 _ _ _ hv];exact h
   ·simp at h
  ·exact h2 _ _ _ _ h
theorem fU {ev:RX->AV} {hp:Nat->Bool} {a b:CI} {c d:CH} (h1:a.le b) (h2:c.le d) {pl:Nat} {x:RO} {H:List Obj} {r} (h:bW ev hp a c pl x H=some r):bW ev hp b d pl x H=some r:=by
 unfold bW at h ⊢
 cases hk:x.kind with
 | call=>
  rw [hk] at h;dsimp only at h ⊢;split at h
  ·exact oz h1 h2 h
  ·split at h
   ·exact oz h1 h2 h
   ·exact oz h1 h2 h
   ·exact h2 _ _ _ _ h
   ·simp at h
  ·simp at h
 | _=>rw [hk] at h;exact h
theorem NA {a b:CI} (h1:a.le b) {f:Nat} {as:List AV} {pl:Nat} {H:List Obj} {r} (h:mkObj a f as pl H=some r):mkObj b f as pl H=some r:=by
 unfold mkObj at h ⊢;split at h
 case h_2=>simp at h
 split at h
 case h_2=>simp at h
 rename_i hc;rw [h1 _ _ _ hc];exact h
theorem zN {ev:RX->AV} {a b:CI} (h1:a.le b) {pl:Nat} {x:RO} {H:List Obj} {r} (h:fF ev a pl x H=some r):fF ev b pl x H=some r:=by
 cases x<;>simp only [fF] at h ⊢<;>first | exact h | exact NA h1 h | (split at h;rename_i hc;rw [if_pos hc];exact fU h1 (fun _ _ _ _ h=>h) h;simp at h) | exact fU h1 (fun _ _ _ _ h=>h) h
end Go.Am
