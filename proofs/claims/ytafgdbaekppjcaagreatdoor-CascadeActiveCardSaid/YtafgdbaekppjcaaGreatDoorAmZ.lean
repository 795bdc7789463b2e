/- The abstract machine with its slots in a tree, which the kernel runs faster: what it computes, the machine computes. No condition. -/
import Derived.Test.YtafgdbaekppjcaaGreatDoorAmY
set_option linter.unusedSectionVars false
set_option linter.unusedVariables false
set_option linter.unusedSimpArgs false
namespace Go.Am
theorem zC (n:Nat) (l:List AV):AV.aT n l=true↔∀ i,(l.getD i .any).bp n=true:=by
 induction l with
 | nil=>simp [AV.aT,AV.bp]
 | cons x l ih=>
  simp only [AV.aT,za0,ih];constructor
  ·rintro ⟨h1,h2⟩ i
   cases i with
   | zero=>simpa [List.getD] using h1
   | succ i=>simpa [List.getD] using h2 i
  ·intro h;exact ⟨by simpa [List.getD] using h 0,fun i=>by simpa [List.getD] using h (i+1)⟩
def cG (ev:RX->AV):RO->Option AV
 | .F6 x=>some (ev x)
 | .pick c a b=>(match ev c with | .bool true=>some (ev a) | .bool false=>some (ev b) | _=>none)
 | .build z parts=>(match nv z (parts.map fun (o,n,x)=>(o,n,ev x)) with | some cs=>some (.agg cs) | none=>none)
 | .bin op x y=>bin op (ev x) (ev y)
 | .un op x=>un op (ev x)
 | .BZ neg ks x y=>BZ neg ks (ev x) (ev y)
 | .F7 neg x y=>F7 neg (ev x) (ev y)
 | .F8 neg x y=>F8 neg (ev x) (ev y)
 | .pF x=>pF (ev x)
 | .conv k x=>(match ev x with | .int _ n=>some (.int k (k.wrap n)) | _=>none)
 | .Rg off n ag x=>(match ev x with | .agg cs=>part n ag cs off | _=>none)
 | .u0 off x=>u0 off (ev x)
 | .mc len sz x i=>mc len sz (ev x) (ev i)
 | .nj len n ag x i=>nj len n ag (ev x) (ev i)
 | .oU x i=>oU (ev x) (ev i)
 | .oV x lo hi=>oV (ev x) (lo.map ev) (hi.map ev)
 | .N2 f cap=>some (.fn f (cap.map ev))
 | .Rh f l=>some (.b8 f (l.map ev))
 | .len st x=>(match qI st (ev x) with | some n=>some (.int .i64 n) | none=>none)
 | .mn l=>(match l.map ev with | x::r=>jB min2 x r | []=>none)
 | .mx l=>(match l.map ev with | x::r=>jB max2 x r | []=>none)
 | .ext x i=>(match ev x with | .bl vs=>vs[i]? | _=>none)
 | .HV x=>HV (ev x)
 | .EJ x=>(match ev x with | .bD=>some (.int .i64 0) | _=>none)
 | _=>none
def en (ev:RX->AV) (H:List Obj):RO->Option AV
 | .load n ag a=>loadAt H n ag (ev a)
 | .jb sz x i=>jb H sz (ev x) (ev i)
 | .slc sz x lo hi=>slc H sz (ev x) (lo.map ev) (hi.map ev)
 | .Ax neg x y=>Ax H neg (ev x) (ev y)
 | .kU len sz x lo hi=>kU H len sz (ev x) (lo.map ev) (hi.map ev)
 | _=>none
def dg (ev:RX->AV) (H:List Obj) (pl:Nat):RO->Option (AV×List Obj)
 | .box x=>if aV (ev x).cells=true then some (.aA pl 1 0 0,putObj H pl (.live .norm (ev x).cells.length [(ev x).cells])) else none
 | .alloc z=>if aV z=true then some (.aA pl 1 0 0,putObj H pl (.live .norm z.length [z])) else none
 | .u5 sz z len parts=>
  if z.length=sz/\aV z=true/\len*sz<=2 ^ 24 then
   (match kj sz (List.replicate len z) (parts.map fun (i,x)=>(i,ev x)) with
    | some es=>some (.own pl len 0 len,putObj H pl (.live .norm sz es))
    | none=>none)
  else none
 | .store n a x=>(match storeAt H n (ev a) (ev x) with | some H'=>some (.bl [],H') | none=>none)
 | .F9 sz z bytes l c=>
  (match ev l,ev c with
   | .int .i64 n,.int .i64 m=>if n=m/\0<=n/\n*bytes<=2 ^ 40/\n<=2 ^ 40/\z.length=sz/\aV z=true then
    some (.own pl n.toNat 0 n.toNat,putObj H pl (.live .norm sz (List.replicate n.toNat z))) else none
   | _,_=>none)
 | .app sz bytes s x=>append H pl sz bytes (ev s) (ev x)
 | .AH z len parts=>
  if z.length=1/\aV z=true/\len*1<=2 ^ 24 then
   (match kj 1 (List.replicate len z) (parts.map fun (i,x)=>(i,ev x)) with
    | some es=>if AV.bN 0 es=true then some (.ro es,H) else none
    | none=>none)
  else none
 | .sx sz z bytes s n=>
  (match ev s,ev n with
   | .bD,.int .i64 m=>if 0 < m/\m*bytes<=2 ^ 40/\m<=2 ^ 40/\z.length=sz/\aV z=true then
    some (.own pl m.toNat 0 m.toNat,putObj H pl (.live .norm sz (List.replicate m.toNat z))) else none
   | _,_=>none)
 | .HW=>some (.mp pl,putObj H pl (.mp []))
 | .iU k m x v=>(match iU H k (ev m) (ev x) (ev v) with | some H'=>some (.bl [],H') | none=>none)
 | .Ek x=>(match ev x with | .str s=>some (.qy pl,putObj H pl (.it s 0)) | _=>none)
 | .uH x=>uH H (ev x)
 | .iV k z ok m x=>(match iV H k z ok (ev m) (ev x) with | some v=>some (v,H) | none=>none)
 | .jx m=>(match jx H (ev m) with | some v=>some (v,H) | none=>none)
 | .BS x=>(match BS H (ev x) with | some v=>some (v,H) | none=>none)
 | _=>none
def mN (ev:RX->AV) (pl:Nat):RO->FP
 | .load _ _ a=>{ r:=refs (ev a) }
 | .jb _ x _=>{ r:=refs (ev x) }
 | .slc _ x _ _=>{ r:=refs (ev x) }
 | .kU _ _ x _ _=>{ r:=refs (ev x) }
 | .Ax _ x y=>{ r:=refs (ev x)++refs (ev y) }
 | .box _=>{ w:=[pl] }
 | .alloc _=>{ w:=[pl] }
 | .u5 ..=>{ w:=[pl] }
 | .mY ..=>{ w:=[pl] }
 | .F9 ..=>{ w:=[pl] }
 | .store _ a _=>{ w:=refs (ev a) }
 | .app _ _ s x=>{ r:=refs (ev x),w:=pl::refs (ev s) }
 | .md _ _ s x=>{ r:=refs (ev x),w:=pl::refs (ev s) }
 | .sx ..=>{ w:=[pl] }
 | .sj _ args=>{ r:=(args.map ev).flatMap refs,w:=[pl] }
 | .iV _ _ _ m _=>{ r:=refs (ev m) }
 | .jx m=>{ r:=refs (ev m) }
 | .BS x=>{ r:=refs (ev x) }
 | .HW=>{ w:=[pl] }
 | .iU _ m _ _=>{ w:=refs (ev m) }
 | .Ek _=>{ w:=[pl] }
 | .uH x=>{ w:=refs (ev x) }
 | .call _ args=>{ r:=(args.map ev).flatMap refs }
 | .gr f args=>{ all:= !((ev f).bp 0&&AV.aT 0 (args.map ev)) }
 | _=>{}
def bV (ev:RX->AV) (hp:Nat->Bool) (cI:CI) (cH:CH) (pl:Nat) (x:RO) (H:List Obj):Option (AV×List Obj):=
 match x.kind with
 | .pure=>(match cG ev x with | some v=>some (v,H) | none=>none)
 | .read=>(match en ev H x with | some v=>some (v,H) | none=>none)
 | .write=>dg ev H pl x
 | .call=>
  match x with
  | .call f args=>bK hp cI cH f (args.map ev) H
  | .gr fx args=>(match ev fx with | .fn f cap=>bK hp cI cH f (args.map ev++cap) H | .b8 f l=>bK hp cI cH f (l++args.map ev) H | .fI l=>cH none (.fI l::args.map ev) H | _=>none)
  | _=>none
def fM (ev:RX->AV) (cI:CI) (pl:Nat) (x:RO) (H:List Obj):Option (AV×List Obj):=
 match x with
 | .sj f args=>mkObj cI f (args.map ev) pl H
 | .md sz bytes a b=>eU (pl::refs (ev a)) (dg ev H pl (.app sz bytes a b))
 | .mY sz z len parts=>eU [pl] (dg ev H pl (.u5 sz z len parts))
 | .call f args=>if mu H (args.map ev)=true then bV ev (fun _=>false) cI (fun _ _ _=>none) pl (.call f args) H else none
 | x=>bV ev (fun _=>false) cI (fun _ _ _=>none) pl x H
theorem Ph (G:Nat->List AV) (t:List AV) (x:RO):aQ G t x=cG (RX.ev G t) x:=by cases x<;>rfl
theorem GQ (G:Nat->List AV) (t:List AV) (H:List Obj) (x:RO):aR G t H x=en (RX.ev G t) H x:=by cases x<;>rfl
theorem Pj (G:Nat->List AV) (t:List AV) (H:List Obj) (pl:Nat) (x:RO):evalW G t H pl x=dg (RX.ev G t) H pl x:=by cases x<;>rfl
theorem Ug (G:Nat->List AV) (t:List AV) (pl:Nat) (x:RO):eF G t pl x=mN (RX.ev G t) pl x:=by cases x<;>rfl
theorem rF (G:Nat->List AV) (hp:Nat->Bool) (cI:CI) (cH:CH) (pl:Nat) (x:RO) (t:List AV) (H:List Obj):evalOp G hp cI cH pl x t H=bV (RX.ev G t) hp cI cH pl x H:=by
 unfold evalOp bV;rw [Ph,GQ,Pj]
 cases x.kind with
 | call=>dsimp only;cases x<;>rfl
 | _=>rfl
theorem Pk (G:Nat->List AV) (cI:CI) (pl:Nat) (x:RO) (t:List AV) (H:List Obj):fJ G cI pl x t H=fM (RX.ev G t) cI pl x H:=by
 cases x<;>first | rfl | exact rF .. | (simp only [fJ,fM];rw [rF];rfl)
def SY {α:Type} (n:Int) (k:Int->α):α:=
 match n with
 | .ofNat 0=>k 0
 | .ofNat (m+1)=>k (.ofNat (m+1))
 | .negSucc 0=>k (.negSucc 0)
 | .negSucc (m+1)=>k (.negSucc (m+1))
theorem Pm {α:Type} (n:Int) (k:Int->α):SY n k=k n:=by
 unfold SY;split<;>rfl
def Jt {α:Type} (v:AV) (k:AV->α):α:=
 match v with
 | .int kd n=>SY n fun m=>k (.int kd m)
 | .bool true=>k (.bool true)
 | .bool false=>k (.bool false)
 | v=>k v
theorem eo {α:Type} (v:AV) (k:AV->α):Jt v k=k v:=by
 unfold Jt;split<;>simp [Pm]
def CI.le (a b:CI):Prop:=∀ f xs r,a f xs=some r->b f xs=some r
def CH.le (a b:CH):Prop:=∀ f xs H r,a f xs H=some r->b f xs H=some r
theorem oB {hp:Nat->Bool} {a b:CI} {c d:CH} (h1:a.le b) (h2:c.le d) {f:Nat} {args:List AV} {H:List Obj} {r} (h:bK hp a c f args H=some r):bK hp b d f args H=some r:=by
 unfold bK at h ⊢;split at h
 ·rename_i hh;rw [if_pos hh];exact h2 _ _ _ _ h
 ·rename_i hh;rw [if_neg hh];split at h
  ·rename_i ys hys;split at h
   ·rename_i v hv;rw [h1 _ _ _ hv];exact h
   ·simp at h
  ·exact h2 _ _ _ _ h
theorem gf {ev:RX->AV} {hp:Nat->Bool} {a b:CI} {c d:CH} (h1:a.le b) (h2:c.le d) {pl:Nat} {x:RO} {H:List Obj} {r} (h:bV ev hp a c pl x H=some r):bV ev hp b d pl x H=some r:=by
 unfold bV at h ⊢
 cases hk:x.kind with
 | call=>
  rw [hk] at h;dsimp only at h ⊢;split at h
  ·exact oB h1 h2 h
  ·split at h
   ·exact oB h1 h2 h
   ·exact oB h1 h2 h
   ·exact h2 _ _ _ _ h
   ·simp at h
  ·simp at h
 | _=>rw [hk] at h;exact h
theorem L4 {a b:CI} (h1:a.le b) {f:Nat} {as:List AV} {pl:Nat} {H:List Obj} {r} (h:mkObj a f as pl H=some r):mkObj b f as pl H=some r:=by
 unfold mkObj at h ⊢;split at h
 case h_2=>simp at h
 split at h
 case h_2=>simp at h
 rename_i hc;rw [h1 _ _ _ hc];exact h
theorem zD {ev:RX->AV} {a b:CI} (h1:a.le b) {pl:Nat} {x:RO} {H:List Obj} {r} (h:fM ev a pl x H=some r):fM ev b pl x H=some r:=by
 cases x<;>simp only [fM] at h ⊢<;>first | exact h | exact L4 h1 h | (split at h;rename_i hc;rw [if_pos hc];exact gf h1 (fun _ _ _ _ h=>h) h;simp at h) | exact gf h1 (fun _ _ _ _ h=>h) h
end Go.Am
