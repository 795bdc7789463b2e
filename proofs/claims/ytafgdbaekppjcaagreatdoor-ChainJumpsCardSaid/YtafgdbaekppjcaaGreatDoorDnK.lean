/- Parts of my machine and its laws, joined: DnK DnX. No condition. -/
import Derived.Test.YtafgdbaekppjcaaGreatDoorDnJ
set_option linter.unusedSectionVars false
set_option linter.unusedVariables false
set_option linter.unusedSimpArgs false
section
namespace oe
open Go hiding Obj mark
open Go.Pl Go.Am Go.Am.As
section
variable {G:Nat->Type} {R:Type}
def Nc:TV G->Option (List Nat)
 | .own i=>some [i]
 | .sa ..=>none
 | .raw v=>some (jH v)
 | _=>some []
theorem Ki {g:Ge G} {ln:Nat->Nat} {v:TV G} {l:List Nat} (h:Nc v=some l):jH (v.av g ln)=l:=by
 cases v with
 | sa=>cases h
 | gr t o=>cases o<;>exact zbg h
 | dO t o=>cases o<;>exact zbg h
 | _=>exact zbg h
def vB:List (TV G)->Option (List Nat)
 | []=>some []
 | x::xs=>(match Nc x with
  | some a=>(match vB xs with | some b=>some (a++b) | none=>none)
  | none=>none)
theorem yp {g:Ge G} {ln:Nat->Nat}:∀ {l:List (TV G)} {m:List Nat},vB l=some m->(TV.aP g ln l).flatMap jH=m
 | [],m,h=>zbg h
 | x::l,m,h=>by
  rw [vB] at h;split at h
  case h_2=>cases h
  rename_i a ha;split at h
  case h_2=>cases h
  rename_i b hb;injection h with h;subst h
  rw [TV.aP,zb0,Ki ha,yp hb]
def kE:TV G->Option (List Nat)
 | .agg l=>vB l
 | .arr ..=>none
 | .own i=>some [i]
 | .po i _=>some [i]
 | .pe i _ _=>some [i]
 | .pa i _ _ _=>some [i]
 | .sa ..=>none
 | .raw v=>some (refs v)
 | _=>some []
theorem jY {g:Ge G} {ln:Nat->Nat} {v:TV G} {l:List Nat} (h:kE v=some l):refs (v.av g ln)=l:=by
 cases v with
 | sa=>cases h
 | arr=>cases h
 | agg l=>exact yp h
 | gr t o=>cases o<;>exact zbg h
 | dO t o=>cases o<;>exact zbg h
 | _=>exact zbg h
def wL:List (TV G)->Option (List Nat)
 | []=>some []
 | x::xs=>(match kE x with
  | some a=>(match wL xs with | some b=>some (a++b) | none=>none)
  | none=>none)
theorem tQ {g:Ge G} {ln:Nat->Nat}:∀ {l:List (TV G)} {m:List Nat},wL l=some m->(TV.aP g ln l).flatMap refs=m
 | [],m,h=>zbg h
 | x::l,m,h=>by
  rw [wL] at h;split at h
  case h_2=>cases h
  rename_i a ha;split at h
  case h_2=>cases h
  rename_i b hb;injection h with h;subst h
  rw [TV.aP,zb0,jY ha,tQ hb]
def fpV (gl:Nat->List AV) (s:DS G) (pl:Nat):RO->Option FP
 | .load _ _ a=>(match kE (s.rx gl a) with | some l=>some { r:=l } | none=>none)
 | .jd _ x _=>(match kE (s.rx gl x) with | some l=>some { r:=l } | none=>none)
 | .slc _ x _ _=>(match kE (s.rx gl x) with | some l=>some { r:=l } | none=>none)
 | .box _=>some { w:=[pl] }
 | .alloc _=>some { w:=[pl] }
 | .u0 ..=>some { w:=[pl] }
 | .m8 ..=>some { w:=[pl] }
 | .Hr ..=>some { w:=[pl] }
 | .store _ a _=>(match kE (s.rx gl a) with | some l=>some { w:=l } | none=>none)
 | .app _ _ x y=>(match kE (s.rx gl y) with
  | some l=>(match kE (s.rx gl x) with | some m=>some { r:=l,w:=pl::m } | none=>none)
  | none=>none)
 | .mo _ _ x y=>(match kE (s.rx gl y) with
  | some l=>(match kE (s.rx gl x) with | some m=>some { r:=l,w:=pl::m } | none=>none)
  | none=>none)
 | .iD _ args=>(match wL (args.map (s.rx gl)) with | some l=>some { r:=l,w:=[pl] } | none=>none)
 | .call _ args=>(match wL (args.map (s.rx gl)) with | some l=>some { r:=l } | none=>none)
 | .Ho _=>some {}
 | .pick ..=>some {}
 | .build ..=>some {}
 | .bin ..=>some {}
 | .un ..=>some {}
 | .Cz ..=>some {}
 | .Hp ..=>some {}
 | .Hq ..=>some {}
 | .pJ _=>some {}
 | .conv ..=>some {}
 | .Tj ..=>some {}
 | .uZ ..=>some {}
 | .mm ..=>some {}
 | .nk ..=>some {}
 | .oV ..=>some {}
 | .oW ..=>some {}
 | .Qk ..=>some {}
 | .len ..=>some {}
 | .mn _=>some {}
 | .mx _=>some {}
 | .ext ..=>some {}
 | .Jr _=>some {}
 | .gY _ _ _ m _=>(match kE (s.rx gl m) with | some l=>some { r:=l } | none=>none)
 | .jv m=>(match kE (s.rx gl m) with | some l=>some { r:=l } | none=>none)
 | .gX _ m _ _=>(match kE (s.rx gl m) with | some l=>some { w:=l } | none=>none)
 | .Js=>some { w:=[pl] }
 | .gf f args=>if (s.rx gl f).free&&TV.mS (args.map (s.rx gl)) then some {} else none
 | _=>none
theorem Xq {g:Ge G} (hg:g.Ok) {gl:Nat->List AV} {s:DS G} {pl:Nat} {op:RO} {fp:FP} (h:fpV gl s pl op=some fp):mU (ga gl (s.tm g)) pl op=fp:=by
 have rx:=DS.mX g gl s
 cases op<;>first | exact zbg h | exact Ke h | skip
 all_goals
  unfold fpV at h;dsimp only at h
 case gf f args=>
  split at h
  case isFalse=>cases h
  rename_i hf;rw [za0] at hf;injection h with h;subst h
  have h1:=lC hg s.ln _ hf.1;have h2:=eG hg s.ln _ hf.2;simp only [mU,rx,DS.gH,h1,h2];rfl
 case iD f args=>
  split at h
  case h_2=>cases h
  rename_i l hl;injection h with h;subst h
  simp only [mU,DS.gH,tQ hl]
 case call f args=>
  split at h
  case h_2=>cases h
  rename_i l hl;injection h with h;subst h
  simp only [mU,DS.gH,tQ hl]
 case app=>
  split at h
  case h_2=>cases h
  rename_i l hl;split at h
  case h_2=>cases h
  rename_i m hm;injection h with h;subst h
  simp only [mU,rx,jY hl,jY hm]
 case mo=>
  split at h
  case h_2=>cases h
  rename_i l hl;split at h
  case h_2=>cases h
  rename_i m hm;injection h with h;subst h
  simp only [mU,rx,jY hl,jY hm]
 all_goals
  split at h
  case h_2=>cases h
  rename_i l hl;injection h with h;subst h
  simp only [mU,rx,jY hl]
def zH (H:List (TO G)):TV G->Bool
 | .own id=>(match H[id]? with
  | some (.aQ ..)=>true
  | some (.cQ _ _ es)=>jK es
  | _=>false)
 | _=>false
def Mk (H:List (TO G)) (v:TV G):Bool:=v.free||(zH H v||match v with
 | .agg l=>l.all (fun x=>x.free||zH H x)&&(Cr H 6 (.agg l)).isSome
 | _=>false)
def p8 (H:List (TO G)):List (TV G)->Bool
 | []=>true
 | x::xs=>Mk H x&&p8 H xs
theorem Eg {g:Ge G} (hg:g.Ok) {s:DS G} {v:TV G} (h:zH s.H v=true):iK (s.Hv g) (v.av g s.ln)=true/\(Cr s.H 6 v).isSome=true/\∃ id,v= .own id:=by
 unfold zH at h;split at h
 case h_2=>cases h
 rename_i id;split at h
 ·rename_i fl t l hid;refine ⟨?_,?_,id,rfl⟩
  ·unfold iK;show (_||(match (s.Hv g)[id]? with | some (.live _ _ es)=>_ | _=>false))=true;rw [bl hid];simp only [TO.av,zaW,nM hid];rw [zah (by simp),gk (cT hg t).bD l,zbK]
  ·show (if (TV.own id:TV G).free then some _ else match s.H[id]? with | _=>_).isSome=true;rw [show (TV.own id:TV G).free=false from rfl];simp only [za9,if_false,hid];rfl
 ·rename_i fl sz es hid;have e:s.ln id=es.length:=by unfold DS.ln ju;rw [hid];rfl
  refine ⟨?_,?_,id,rfl⟩
  ·unfold iK;show (_||(match (s.Hv g)[id]? with | some (.live _ _ es)=>_ | _=>false))=true;rw [bl hid];have hle:(TV.cV g s.ln es).length=es.length:=by rw [bu,zaa]
   simp only [TO.av,zaW,e];rw [zah (by rw [hle];exact za7 _),fR hg s.ln es h,zbK]
  ·show (if (TV.own id:TV G).free then some _ else match s.H[id]? with | _=>_).isSome=true;rw [show (TV.own id:TV G).free=false from rfl];simp only [za9,if_false,hid,h,if_true];rfl
 ·cases h
theorem Eh {g:Ge G} (hg:g.Ok) {s:DS G}:∀ l:List (TV G),l.all (fun x=>x.free||zH s.H x)=true->(TV.aP g s.ln l).all (iK (s.Hv g))=true
 | [],_=>rfl
 | x::l,h=>by
  rw [zbI,za0] at h;rw [TV.aP,zbI,Eh hg l h.2,Bool.and_true];rcases (zat _ _).mp h.1 with h1 | h1
  ·unfold iK;rw [lC hg _ x h1,Bool.true_or]
  ·exact (Eg hg h1).1
theorem Ei {g:Ge G} (hg:g.Ok) {s:DS G} {v:TV G} (h:Mk s.H v=true):∃ w,qV (s.Hv g) (v.av g s.ln)=some w/\pk 6 (s.Hv g) (v.av g s.ln)=some w:=by
 unfold Mk at h
 cases hb:AV.bD 0 (v.av g s.ln) with
 | true=>exact ⟨_,by unfold qV;rw [if_pos hb],je hb⟩
 | false=>
  rcases (zat _ _).mp h with h | h
  ·rw [lC hg _ v h] at hb;cases hb
  rcases (zat _ _).mp h with h | h
  ·obtain ⟨h1,h2,id,rfl⟩:=Eg hg h;obtain ⟨w,hw⟩:=Option.isSome_iff_exists.1 h2;have hk:=mz hg 6 hw;refine ⟨_,?_,hk⟩;unfold qV;rw [if_neg (by rw [hb];exact Bool.false_ne_true)];show (if iK (s.Hv g) ((TV.own id:TV G).av g s.ln)=true then pk 6 (s.Hv g) ((TV.own id:TV G).av g s.ln) else none)=_;rw [if_pos h1,hk]
  ·cases v with
   | agg l=>
   have h:((l.all fun x=>x.free||zH s.H x)&&(Cr s.H 6 (.agg l)).isSome)=true:=h;rw [za0] at h;obtain ⟨w,hw⟩:=Option.isSome_iff_exists.1 h.2;have hk:=mz hg 6 hw;refine ⟨_,?_,hk⟩;unfold qV;rw [if_neg (by rw [hb];exact Bool.false_ne_true)];show (if (TV.aP g s.ln l).all (iK (s.Hv g))=true then pk 6 (s.Hv g) (.agg (TV.aP g s.ln l)) else none)=_;rw [if_pos (Eh hg l h.1)];exact hk
   | _=>cases h
theorem Ar {g:Ge G} (hg:g.Ok) {s:DS G}:∀ {l:List (TV G)},p8 s.H l=true->mC (s.Hv g) (TV.aP g s.ln l)=true
 | [],_=>rfl
 | x::l,h=>by
  rw [p8,za0] at h;have h1:=Ei hg h.1;have h2:=Ar hg h.2;unfold mC at h2 ⊢;rw [TV.aP,kC];obtain ⟨a,ha,_⟩:=h1;rw [ha]
  cases hb:kC (s.Hv g) (TV.aP g s.ln l) with
   | none=>rw [hb] at h2;cases h2
   | some b=>rfl
def Rg (w:List Nat) (v:TV G) (s:DS G) (c:TV G->DS G->Option R):Option R:=match v with
 | .own id=>if mq id w then (match s.H[id]? with
  | some (.aQ fl t l)=>if fl.free then c (.aQ t l) (s.cY id .dead) else none
  | some (.cQ fl sz es)=>if fl.free&&(jK es&&jh es) then c (.o4 es) (s.cY id .dead) else none
  | _=>none) else none
 | _=>none
theorem Ej {x:Nat}:∀ {l:List Nat},mq x l=true->x∈l
 | y::l,h=>by
  rw [mq,zat] at h;rcases h with h | h
  ·rw [za3 h];exact zaP ..
  ·exact zau _ (Ej h)
theorem B6 {g:Ge G} (hg:g.Ok) {w:List Nat} {v:TV G} {s:DS G} {c:TV G->DS G->Option R} {r:R} (h:Rg w v s c=some r):g7 g s (eL w (some (v.av g s.ln,s.Hv g))) c r:=by
 unfold Rg at h;split at h
 case h_2=>cases h
 rename_i id;split at h
 case isFalse=>cases h
 rename_i hm;have hw:((refs ((TV.own id:TV G).av g s.ln)).all fun i=>w.contains i)=true:=by
  simp [TV.av,refs,Ej hm]
 have fin:∀ {o:TO G} {v':TV G} {fl:Fl} {sz:Nat} {es:List (List AV)},s.H[id]?=some o->o.av g s.ln (s.FR g)= .live fl sz es->o.len=es.length->AV.bO 0 es=true->fl.free=true->v'.av g (s.cY id .dead).ln= .ro es->c v' (s.cY id .dead)=some r->g7 g s (eL w (some ((TV.own id:TV G).av g s.ln,s.Hv g))) c r:=by
  intro o v' fl sz es hid h1 h2 h3 h4 h5 h6;obtain ⟨k1,k2,k3,k4⟩:=ry (g:=g) (o':= .dead) hid;have e:s.ln id=es.length:=by unfold DS.ln ju;rw [hid];exact h2
  have hH:(s.Hv g)[id]?=some (.live fl sz es):=by rw [bl hid,h1]
  refine ⟨v',_,?_,k2,k3,h6⟩;unfold eL;dsimp only;rw [if_pos hw];have hf:ko 0 ⟨[(TV.own id:TV G).av g s.ln],s.Hv g⟩=some ⟨[.ro es],(s.Hv g).set id .dead⟩:=by
   unfold ko;rw [show (TV.own id:TV G).av g s.ln= .own id (s.ln id) 0 (s.ln id) from rfl,e];show (match aC (s.Hv g) id with | some (_,es')=>_ | none=>none)=_;simp only [aC,hH,zaW,cy];rw [zah (za7 _),if_pos ⟨trivial,h3,h4⟩];rfl
  rw [hf];dsimp only;rw [k4,h5];rfl
 split at h
 ·rename_i fl t l hid;split at h
  case isFalse=>cases h
  rename_i hf;exact fin hid rfl (by simp [TO.len]) (gk (cT hg t).bD l) hf rfl h
 ·rename_i fl sz es hid;split at h
  case isFalse=>cases h
  rename_i hf;simp only [za0] at hf;refine fin hid rfl (by simp [TO.len,bu]) (fR hg s.ln es hf.2.1) hf.1 ?_ h;show AV.ro _=AV.ro _;rw [fV es hf.2.2]
 ·cases h
structure dG (G:Nat->Type) where
 f:Nat
 args:List Sh
 ts:List Ty
 t:Ty
 m:DL G ts->Option (List (t.D G))
def dG.vs (g:Ge G) (c:dG G) (x:DL G c.ts):List (TV G):=pQ g c.args (aI g c.ts x)
def dG.Ok (E:Env) (hp:Nat->Bool) (g:Ge G) (c:dG G):Prop:=∀ x l,c.m x=some l->l≠[]->∃ n,kh E.fns (ak E hp n) c.f (.aJ 0 0 0 0::TV.aP g (fun _=>0) (c.vs g x))=some (.aY [.aJ 0 0 (c.t.n g) 0,.ro (l.map (enc g c.t))])
def jZ (g:Ge G) (f:Nat) (ys:List (TV G)):List (dG G)->Option ((c:dG G)×DL G c.ts)
 | []=>none
 | c::r=>if Nat.beq c.f f then (match Da g c.args ys with
  | some l=>(match nr g c.ts l with
   | some x=>some ⟨c,x⟩
   | none=>jZ g f ys r)
  | none=>jZ g f ys r) else jZ g f ys r
theorem uA {g:Ge G} (hg:g.Ok) {f:Nat} {ys:List (TV G)} {ln:Nat->Nat}:∀ {C:List (dG G)} {p:(c:dG G)×DL G c.ts},jZ g f ys C=some p->p.1∈C/\p.1.f=f/\TV.aP g ln (p.1.vs g p.2)=TV.aP g ln ys
 | [],p,h=>by cases h
 | c::r,p,h=>by
  have tl:jZ g f ys r=some p->p.1∈c::r/\p.1.f=f/\TV.aP g ln (p.1.vs g p.2)=TV.aP g ln ys:=fun h=>by
   obtain ⟨h1,h2⟩:=uA hg h;exact ⟨zau _ h1,h2⟩
  rw [jZ] at h;split at h
  case isFalse=>exact tl h
  rename_i hf;split at h
  case h_2=>exact tl h
  rename_i l hl;split at h
  case h_2=>exact tl h
  rename_i x hx;injection h with h;subst h
  exact ⟨zaP ..,za3 hf,xK hl (by rw [ir hg,kH hg ln _ _ _ hx])⟩
def Ua:Ty->Bool
 | .int _ | .bool | .str=>true
 | _=>false
theorem PC {g:Ge G} {t:Ty} (h:Ua t=true) (l:List (t.D G)):wm (.ro (l.map (enc g t)))=true:=by
 show (l.map (enc g t)).all AV.jF=true;rw [List.all_map,zaf];intro x _
 cases t<;>first | rfl | cases h
theorem Ek {g:Ge G} (hg:g.Ok) {s:DS G}:∀ {l ys:List (TV G)},p8 s.H l=true->pH (Cr s.H 6) l=some ys->kC (s.Hv g) (TV.aP g s.ln l)=some (TV.aP g s.ln ys)
 | [],ys,_,hp=>by injection hp with hp;subst hp;rfl
 | x::l,ys,hl,hp=>by
  rw [p8,za0] at hl;rw [pH] at hp;split at hp
  case h_2=>cases hp
  rename_i y hy;split at hp
  case h_2=>cases hp
  rename_i m hm;injection hp with hp;subst hp
  have h1:=mz hg 6 hy;obtain ⟨w,h2,h3⟩:=Ei hg hl.1;rw [h1] at h3;injection h3 with h3;subst h3
  rw [TV.aP,TV.aP,kC,h2,Ek hg hl.2 hm]
def VK (X:Cx G) (CM:List (dG G)) (rec:Rec G) (pl:Nat) (s:DS G) (op:RO) (k:TV G->DS G->Option R):Option R:=match op with
 | .call f args=>if p8 s.H (args.map (s.rx X.gl)) then
  (match pH (Cr s.H 6) (args.map (s.rx X.gl)) with
   | some ys=>Db X s f (args.map (s.rx X.gl)) ys k none
   | none=>none) else none
 | .gf fx args=>(match QY (s.rx X.gl fx) with
  | some p=>(match pH (Cr s.H 6) (args.map (s.rx X.gl)++p.2) with
   | some ys=>Db X s p.1 (args.map (s.rx X.gl)++p.2) ys k none
   | none=>none)
  | none=>none)
 | .iD f args=>if p8 s.H (args.map (s.rx X.gl)) then
  (match pH (Cr s.H 6) (args.map (s.rx X.gl)) with
   | some ys=>(match jZ X.g f ys CM with
   | some p=>if (TV.mS (args.map (s.rx X.gl))||Ua p.1.t)&&ig (p.1.vs X.g p.2) then (p.1.m p.2).bind fun l=>(ia l).bind fun _=>if s.fits pl (.aQ .norm p.1.t l) then k (.own pl) (s.dL pl (.aQ .norm p.1.t l)) else none else none
   | none=>none)
   | none=>none) else none
 | .mo sz qG x y=>(match kE (s.rx X.gl x) with
  | some w=>QA X.g s sz qG (s.rx X.gl x) (s.rx X.gl y) fun v s'=>Rg (pl::w) v s' k
  | none=>none)
 | .m8 sz z len parts=>Qz X.g s pl sz z len (parts.map fun p=>(p.1,s.rx X.gl p.2)) fun v s'=>Rg [pl] v s' k
 | op=>ev X.g X.gl s pl op k
def Ub (H:List (TO G)) (pl:Nat) (op:RO):Bool:= !op.dP||(match H[pl]? with | some .ew=>true | _=>false)
def YW (X:Cx G) (CM:List (dG G)) (rec:Rec G) (b0:Nat) (o:Nat×bH) (s:DS G) (k:DS G->FP->Option R):Option R:=match fpV X.gl s (b0+o.1) o.2.op with
 | some fp=>if Ub s.H (b0+o.1) o.2.op then VK X CM rec (b0+o.1) s o.2.op fun v s'=>k (s'.cS o.2.dst v) fp else none
 | none=>none
def P7 (X:Cx G) (CM:List (dG G)) (rec:Rec G) (b0:Nat):List (Nat×bH)->DS G->(DS G->List FP->Option R)->Option R
 | [],s,k=>k s []
 | o::os,s,k=>(match o.2.guard with
  | none=>YW X CM rec b0 o s fun s' fp=>P7 X CM rec b0 os s' fun s'' fs=>k s'' (fp::fs)
  | some p=>(match Bt (s.get p.1) with
   | some c=>if p.2 then
    cond c (YW X CM rec b0 o (s.rep p.1 (.bool true)) fun s' fp=>P7 X CM rec b0 os s' fun s'' fs=>k s'' (fp::fs)) (P7 X CM rec b0 os ((s.rep p.1 (.bool false)).cS o.2.dst (.raw (.aY []))) fun s'' fs=>k s'' ({}::fs))
    else
     cond c (P7 X CM rec b0 os ((s.rep p.1 (.bool true)).cS o.2.dst (.raw (.aY []))) fun s'' fs=>k s'' ({}::fs)) (YW X CM rec b0 o (s.rep p.1 (.bool false)) fun s' fp=>P7 X CM rec b0 os s' fun s'' fs=>k s'' (fp::fs))
   | none=>none))
theorem I7 {E:Env} {hp:Nat->Bool} {t:T} {H:List Obj} {b0 k n:Nat} {o:bH} {os:List (Nat×bH)} {v:AV} {H1:List Obj} {f:FP} {K:T->List Obj->List FP->Prop} (h:nE E.aF (kh E.fns (ak E hp n)) (b0+k) o t H=some (v,H1,f))
 (hk:WD E hp b0 os (cS t o.dst v) H1 (fun t' H' fs=>K t' H' (f::fs))):WD E hp b0 ((k,o)::os) t H K:=by
 obtain ⟨m,t',H',fs,h1,h2⟩:=hk;refine ⟨max n m,t',H',f::fs,?_,h2⟩;rw [gD,D4 (dW E.fns (bN (zby n m))) h];simp only [dU];rw [si (dW E.fns (bN (zbs n m))) os h1]
theorem g7.trans {g:Ge G} {s s1:DS G} {m:Option (AV×List Obj)} {c:TV G->DS G->Option R} {r:R} (h1:s1.tm g=s.tm g) (h2:s1.FR g=s.FR g) (h:g7 g s1 m c r):g7 g s m c r:=by
 obtain ⟨w,s',e1,e2,e3,e4⟩:=h;exact ⟨w,s',e1,by rw [e2,h1],by rw [e3,h2],e4⟩
theorem SP {X:Cx G} {E:Env} (hX:X.Ok E) {CM:List (dG G)} (hM:∀ c∈CM,c.Ok E X.hp X.g) {rec:Rec G} {pl:Nat} {s:DS G} {op:RO} {k:TV G->DS G->Option R} {r:R} (h:VK X CM rec pl s op k=some r):
 ∃ n,g7 X.g s (fF (ga E.aF (s.tm X.g)) (kh E.fns (ak E X.hp n)) pl op (s.Hv X.g)) k r:=by
 have plain:∀ {op:RO},(∀ f a,op≠ .call f a)->(∀ f a,op≠ .iD f a)->(∀ a b c d,op≠ .mo a b c d)->(∀ a b c d,op≠ .m8 a b c d)->ev X.g X.gl s pl op k=some r->∃ n,g7 X.g s (fF (ga E.aF (s.tm X.g)) (kh E.fns (ak E X.hp n)) pl op (s.Hv X.g)) k r:=by
  intro op n1 n2 n3 n4 h;obtain ⟨h1,h2⟩:=Uc hX.g h;rw [hX.gl] at h2;refine ⟨0,?_⟩;have:fF (ga E.aF (s.tm X.g)) (kh E.fns (ak E X.hp 0)) pl op (s.Hv X.g)=KF (ga E.aF (s.tm X.g)) pl op (s.Hv X.g):=by
   unfold fF;split
   ·exact (n2 _ _ rfl).elim
   ·exact (n3 _ _ _ _ rfl).elim
   ·exact (n4 _ _ _ _ rfl).elim
   ·exact (n1 _ _ rfl).elim
   ·exact Gq h1
  rw [this];exact h2
 unfold VK at h;split at h
 ·rename_i f args;split at h
  case isFalse=>cases h
  rename_i hl;split at h
  case h_2=>cases h
  rename_i ys hys;obtain ⟨n,v,H',h1,h2⟩:=xL hX (dr:=true) (.inl rfl) hys h (fun h=>by cases h);obtain ⟨w,s',e1,e2,e3,e4,e5⟩:=h2;refine ⟨n,w,s',?_,e3,e4,e5⟩;unfold fF;dsimp only;have hl':=Ar hX.g hl;rw [hX.gl,<-DS.gH] at hl' h1;rw [if_pos hl'];simp only [bW,RO.kind];rw [show bJ (fun _=>false) (kh E.fns (ak E X.hp n)) (fun _ _ _=>none) f (args.map (ga E.aF (s.tm X.g))) (s.Hv X.g)=some (v,H') from h1,e1,e2]
 ·rename_i fx args;split at h
  case h_2=>cases h
  rename_i p hp;split at h
  case h_2=>cases h
  rename_i ys hys;obtain ⟨n,v,H',h1,h2⟩:=xL hX (dr:=true) (.inl rfl) hys h (fun h=>by cases h);obtain ⟨w,s',e1,e2,e3,e4,e5⟩:=h2;refine ⟨n,w,s',?_,e3,e4,e5⟩;have KW:ga E.aF (s.tm X.g) fx= .fn p.1 (TV.aP X.g s.ln p.2):=by
   rw [<-hX.gl,DS.mX,BP hp];rfl
  rw [hX.gl,kJ,<-DS.gH] at h1;show bW (ga E.aF (s.tm X.g)) (fun _=>false) (kh E.fns (ak E X.hp n)) (fun _ _ _=>none) pl (.gf fx args) (s.Hv X.g)=_;simp only [bW,RO.kind,KW];rw [show bJ (fun _=>false) (kh E.fns (ak E X.hp n)) (fun _ _ _=>none) p.1 (args.map (ga E.aF (s.tm X.g))++TV.aP X.g s.ln p.2) (s.Hv X.g)=some (v,H') from h1,e1,e2]
 ·rename_i f args;split at h
  case isFalse=>cases h
  rename_i hl;split at h
  case h_2=>cases h
  rename_i ys hys;split at h
  case h_2=>cases h
  rename_i p hp;split at h
  case isFalse=>cases h
  rename_i hi;rw [za0] at hi;obtain ⟨hfl,hi⟩:=hi;obtain ⟨l,h1,h2⟩:=bind_some h;obtain ⟨_,h3,h4⟩:=bind_some h2;split at h4
  case isFalse=>cases h4
  rename_i hf;obtain ⟨e1,e2,e3⟩:=uA hX.g (ln:=s.ln) hp;have hne:l≠[]:=by rintro rfl;cases h3
  obtain ⟨n,hn⟩:=hM _ e1 _ _ h1 hne;rw [e2,eH (cc:=s.ln) _ hi,e3] at hn;obtain ⟨k1,k2,k3⟩:=fq (g:=X.g) hf;refine ⟨n,_,_,?_,k1,k2,h4⟩;have hb:(AV.aR 0 (TV.aP X.g s.ln (args.map (s.rx X.gl)))||wm (.ro (l.map (enc X.g p.1.t))))=true:=by
   rcases (zat _ _).mp hfl with hf | hf
   ·rw [eG hX.g s.ln _ hf];rfl
   ·rw [PC hf l,zbK]
  have zm:=Ek hX.g hl hys;unfold fF;dsimp only;unfold mkObj;rw [hX.gl,<-DS.gH] at hb zm;rw [zm];dsimp only;rw [hn];show (if _ then wj pl (s.Hv X.g) (p.1.t.n X.g) (.ro (l.map (enc X.g p.1.t))) else none)=_;rw [if_pos hb,k3];show some (AV.own pl (l.map (enc X.g p.1.t)).length 0 (l.map (enc X.g p.1.t)).length,_)=some (AV.own pl (DS.ln _ pl) 0 (DS.ln _ pl),_);rw [jr (kK hf)];simp [TO.len,TO.av]
 ·rename_i sz qG x y;split at h
  case h_2=>cases h
  rename_i w hw;obtain ⟨v,s',e1,e2,e3,e4⟩:=I8 (pl:=pl) hX.g h;refine ⟨0,?_⟩;have:=B6 hX.g e4;unfold fF;dsimp only;show g7 X.g s (eL _ (Am.append (s.Hv X.g) pl sz qG (ga E.aF (s.tm X.g) x) (ga E.aF (s.tm X.g) y))) k r;rw [DS.mX X.g E.aF s x,DS.mX X.g E.aF s y,<-hX.gl,e1,jY hw];exact this.trans e2 e3
 ·rename_i sz z len parts;obtain ⟨v,s',e1,e2,e3,e4⟩:=I9 (g:=X.g) hX.g h;refine ⟨0,?_⟩;have:=B6 hX.g e4;unfold fF;dsimp only;rw [zb6] at e1;have:cP (ga E.aF (s.tm X.g)) (s.Hv X.g) pl (.u0 sz z len parts)=some (v.av X.g s'.ln,s'.Hv X.g):=by
   rw [<-hX.gl];simp only [cP,DS.mX X.g X.gl s];exact e1
  rw [this];exact (B6 hX.g e4).trans e2 e3
 ·rename_i n1 n2 n3 n4 n5;exact plain (fun f a e=>n1 f a e) (fun f a e=>n3 f a e) (fun a b c d e=>n4 a b c d e) (fun a b c d e=>n5 a b c d e) h
theorem Gb {X:Cx G} {E:Env} (hX:X.Ok E) {CM:List (dG G)} (hM:∀ c∈CM,c.Ok E X.hp X.g) {rec:Rec G} {b0:Nat} {r:R} {Q:T->List Obj->List FP->Prop}:∀ (os:List (Nat×bH)) {s:DS G} {k:DS G->List FP->Option R},
 P7 X CM rec b0 os s k=some r->(∀ s' fs,s'.FR X.g=s.FR X.g->k s' fs=some r->Q (s'.tm X.g) (s'.Hv X.g) fs)->WD E X.hp b0 os (s.tm X.g) (s.Hv X.g) Q
 | [],s,k,h,hk=>Xr (hk s [] rfl h)
 | o::os,s,k,h,hk=>by
  obtain ⟨p,d,gd,op⟩:=o;have go:∀ {s1:DS G},s1.tm X.g=s.tm X.g->s1.Hv X.g=s.Hv X.g->s1.FR X.g=s.FR X.g->dh (s.tm X.g) gd=some true->(YW X CM rec b0 ⟨p,d,gd,op⟩ s1 fun s' fp=>P7 X CM rec b0 os s' fun s'' fs=>k s'' (fp::fs))=some r->WD E X.hp b0 ((p,⟨d,gd,op⟩)::os) (s.tm X.g) (s.Hv X.g) Q:=by
   intro s1 t1 t2 t3 hw h;unfold YW at h;dsimp only at h;split at h
   case h_2=>cases h
   rename_i fp hfp;split at h
   case isFalse=>cases h
   rename_i dg;obtain ⟨n,w,s',e1,e2,e3,e4⟩:=SP hX hM h;have VL:=Xq hX.g hfp;rw [hX.gl] at VL;have Rh:sI (s1.Hv X.g) (b0+p) op=true:=by
    unfold Ub at dg;unfold sI;rcases (zat _ _).mp dg with h | h
    ·rw [h];rfl
    ·split at h
     ·rename_i hr;rw [bl hr];exact (zat _ _).mpr (.inr rfl)
     ·cases h
   rw [t1] at e1 VL;rw [t2] at e1 Rh;refine I7 (n:=n) (v:=w.av X.g s'.ln) (H1:=s'.Hv X.g) (f:=fp) ?_ ?_
   ·simp only [nE,hw];rw [if_pos Rh,e1];dsimp only;rw [VL]
   ·have:=Gb hX hM os (Q:=fun t' H' fs=>Q t' H' (fp::fs)) e4 (fun s'' fs h1 h2=>hk s'' (fp::fs) (by rw [h1,DS.ov,e3,t3]) h2);rw [DS.ow,DS.rI,e2,t1] at this;exact this
  have no:∀ {s1:DS G},s1.tm X.g=s.tm X.g->s1.Hv X.g=s.Hv X.g->s1.FR X.g=s.FR X.g->dh (s.tm X.g) gd=some false->(P7 X CM rec b0 os (s1.cS d (.raw (.aY []))) fun s'' fs=>k s'' ({}::fs))=some r->WD E X.hp b0 ((p,⟨d,gd,op⟩)::os) (s.tm X.g) (s.Hv X.g) Q:=by
   intro s1 t1 t2 t3 hw h;refine I7 (n:=0) (v:= .aY []) (H1:=s.Hv X.g) (f:={}) ?_ ?_
   ·simp only [nE,hw]
   ·have:=Gb hX hM os (Q:=fun t' H' fs=>Q t' H' ({}::fs)) h (fun s'' fs h1 h2=>hk s'' ({}::fs) (by rw [h1,DS.ov,t3]) h2);rw [DS.ow,DS.rI,t1,t2] at this;exact this
  rw [P7] at h;dsimp only at h
  cases gd with
  | none=>exact go rfl rfl rfl rfl h
  | some q=>
   obtain ⟨t,b⟩:=q;dsimp only at h;have aL:(s.tm X.g).get t=(s.get t).av X.g s.ln:=DS.ij X.g s t;split at h
   case h_2=>cases h
   rename_i c hc;have hv:=tF hc;rw [hv] at aL;have hw:dh (s.tm X.g) (some (t,b))=some (c==b):=by
    unfold dh;dsimp only;rw [aL];rfl
   have rp:∀ {b':Bool},c=b'->(s.rep t (.bool b')).tm X.g=s.tm X.g/\(s.rep t (.bool b')).Hv X.g=s.Hv X.g/\(s.rep t (.bool b')).FR X.g=s.FR X.g:=by
    intro b' e;subst e;exact Nd (by rw [hv])
   cases b with
   | true=>
    simp only [if_true] at h
    cases c with
    | true=>obtain ⟨r1,r2,r3⟩:=rp rfl;exact go r1 r2 r3 hw h
    | false=>obtain ⟨r1,r2,r3⟩:=rp rfl;exact no r1 r2 r3 hw h
   | false=>
    simp only [za9,if_false] at h
    cases c with
    | true=>obtain ⟨r1,r2,r3⟩:=rp rfl;exact no r1 r2 r3 hw h
    | false=>obtain ⟨r1,r2,r3⟩:=rp rfl;exact go r1 r2 r3 hw h
end
end oe
end
section
namespace oe
open Go hiding Obj mark
open Go.Pl Go.Am Go.Am.As
section
variable {G:Nat->Type} {R:Type}
def eqG (ln cc:Nat->Nat) (v w:TV G) (k:Option R):Option R:=match v,w with
 | .own a,.own b=>if Nat.beq a b then (if ln a=cc a then k else none) else none
 | .po a o,.po b q=>if Nat.beq a b&&Nat.beq o q then k else none
 | .int kd n,.int kd' m=>if kd=kd' then (if n=m then k else none) else none
 | .bool x,.bool y=>if x=y then k else none
 | .pe a i o,.pe b j q=>if Nat.beq a b&&Nat.beq o q then (if i=j then (if ln a=cc a then k else none) else none) else none
 | _,_=>none
theorem MX {g:Ge G} {ln cc:Nat->Nat} {v w:TV G} {k:Option R} {r:R} (h:eqG ln cc v w k=some r):(v.av g ln=w.av g cc/\AV.same (v.av g ln) (v.av g ln)=true)/\k=some r:=by
 have nb:∀ n:Nat,Nat.beq n n=true:=fun n=>Nat.beq_refl n
 cases v<;>cases w<;>simp only [eqG] at h<;>try cases h
 case int.int kd n kd' m=>
  split at h
  case isFalse=>cases h
  rename_i e1;split at h
  case isFalse=>cases h
  rename_i e2;subst e1;subst e2;exact ⟨⟨rfl,by show (decide _&&decide _)=true;simp⟩,h⟩
 case bool.bool x y=>
  split at h
  case isFalse=>cases h
  rename_i e;subst e;exact ⟨⟨rfl,by show (x==x)=true;simp⟩,h⟩
 case po.po a o b q=>
  split at h
  case isFalse=>cases h
  rename_i e;rw [za0] at e;have e1:=za3 e.1;have e2:=za3 e.2;subst e1;subst e2;exact ⟨⟨rfl,by show (Nat.beq _ _&&Nat.beq _ _&&Nat.beq _ _&&Nat.beq _ _)=true;simp only [nb,zbM]⟩,h⟩
 case pe.pe a i o b j q=>
  split at h
  case isFalse=>cases h
  rename_i e;rw [za0] at e;have e1:=za3 e.1;have e2:=za3 e.2;subst e1;subst e2;split at h
  case isFalse=>cases h
  rename_i e3;subst e3;split at h
  case isFalse=>cases h
  rename_i e4;refine ⟨⟨?_,by show (Nat.beq _ _&&Nat.beq _ _&&Nat.beq _ _&&Nat.beq _ _)=true;simp only [nb,zbM]⟩,h⟩;show AV.aJ a (ln a) i.toNat o=AV.aJ a (cc a) i.toNat o;rw [e4]
 case own.own a b=>
  split at h
  case isFalse=>cases h
  rename_i e;have e1:=za3 e;subst e1;split at h
  case isFalse=>cases h
  rename_i e2;refine ⟨⟨?_,by show (Nat.beq _ _&&Nat.beq _ _&&Nat.beq _ _&&Nat.beq _ _)=true;simp only [nb,zbM]⟩,h⟩;show AV.own a (ln a) 0 (ln a)=AV.own a (cc a) 0 (cc a);rw [e2]
structure Rd (G:Nat->Type) where
 i:Nat
 op:RO
 s:DS G
def abc:TV G->Bool
 | .int _ _ | .bool _ | .str _ | .aQ _ _ | .raw _=>true
 | _=>false
def Bv:List (TV G)->Bool
 | []=>true
 | x::l=>abc x&&Bv l
theorem Ac {g:Ge G} {ln cc:Nat->Nat}:∀ {l:List (TV G)},Bv l=true->TV.aP g ln l=TV.aP g cc l
 | [],_=>rfl
 | x::l,h=>by
  rw [Bv,za0] at h;have e:x.av g ln=x.av g cc:=by
   have h1:=h.1
   cases x<;>first | rfl | cases h1
  rw [TV.aP,TV.aP,e,Ac h.2]
def C5 (ln cc:Nat->Nat) (v:TV G) (k:Option R):Option R:=match v with
 | .po _ _=>k
 | .int _ _=>k
 | .own a=>if ln a=cc a then k else none
 | .pe a _ _=>if ln a=cc a then k else none
 | .bR l=>if Bv l then k else none
 | _=>none
theorem xA {g:Ge G} {ln cc:Nat->Nat} {v:TV G} {k:Option R} {r:R} (h:C5 ln cc v k=some r):v.av g ln=v.av g cc/\k=some r:=by
 cases v<;>simp only [C5] at h<;>try cases h
 case int=>exact ⟨rfl,rfl⟩
 case po=>exact ⟨rfl,rfl⟩
 case own a=>
  split at h
  case isFalse=>cases h
  rename_i e;exact ⟨by show AV.own a (ln a) 0 (ln a)=AV.own a (cc a) 0 (cc a);rw [e],h⟩
 case bR l=>
  split at h
  case isFalse=>cases h
  rename_i e;exact ⟨by show AV.bR (TV.aP g ln l)=AV.bR (TV.aP g cc l);rw [Ac e],h⟩
 case pe a i o=>
  split at h
  case isFalse=>cases h
  rename_i e;exact ⟨by show AV.aJ a (ln a) i.toNat o=AV.aJ a (cc a) i.toNat o;rw [e],h⟩
def X7 (X:Cx G) (q:Rd G) (s':DS G) (c:TV G->Option R):Option R:=match q.op with
 | .load n ag x=>C5 q.s.ln s'.ln (q.s.rx X.gl x) (CX X.g s'.H n ag (q.s.rx X.gl x) c)
 | .jd sz x i=>C5 q.s.ln s'.ln (q.s.rx X.gl x) (C5 q.s.ln s'.ln (q.s.rx X.gl i) (HE X.g s'.H sz (q.s.rx X.gl x) (q.s.rx X.gl i) c))
 | _=>none
theorem Bw {X:Cx G} (hg:X.g.Ok) {q:Rd G} {s':DS G} {c:TV G->Option R} {r:R} (h:X7 X q s' c=some r):∃ w:TV G,dS (ga X.gl (q.s.tm X.g)) (s'.Hv X.g) q.op=some (w.av X.g s'.ln)/\c w=some r:=by
 have rx:=DS.mX X.g X.gl q.s;unfold X7 at h;split at h
 ·rename_i n ag x e;obtain ⟨e1,h⟩:=xA (g:=X.g) h;obtain ⟨w,h1,h2⟩:=wT hg h;exact ⟨w,by rw [e];simp only [dS,rx];rw [e1];exact h1,h2⟩
 ·rename_i sz x i e;obtain ⟨e1,h⟩:=xA (g:=X.g) h;obtain ⟨e2,h⟩:=xA (g:=X.g) h;obtain ⟨w,h1,h2⟩:=Dj hg h;exact ⟨w,by rw [e];simp only [dS,rx];rw [e1,e2];exact h1,h2⟩
 ·cases h
def Vv (X:Cx G) (q:Rd G):Bool:=match q.op with
 | .load _ _ x=>(match q.s.rx X.gl x with | .bR _=>true | _=>false)
 | _=>false
theorem IL {X:Cx G} {q:Rd G} (h:Vv X q=true) (A B:List Obj):dS (ga X.gl (q.s.tm X.g)) A q.op=dS (ga X.gl (q.s.tm X.g)) B q.op:=by
 have rx:=DS.mX X.g X.gl q.s;unfold Vv at h;split at h
 case h_2=>cases h
 rename_i n ag x e;split at h
 case h_2=>cases h
 rename_i l hl;rw [e];simp only [dS,rx,hl,TV.av];rfl
def Ll (X:Cx G) (q:Rd G) (sp sq:DS G) (k:Option R):Option R:=
 if Vv X q then X7 X q q.s fun _=>k else
 X7 X q q.s fun v=>X7 X q sp fun w=>eqG q.s.ln sp.ln v w (X7 X q sq fun w2=>eqG q.s.ln sq.ln v w2 k)
theorem Sj {X:Cx G} (hg:X.g.Ok) {q:Rd G} {sp sq:DS G} {k:Option R} {r:R} (h:Ll X q sp sq k=some r):
 (∃ v,AV.same v v=true/\dS (ga X.gl (q.s.tm X.g)) (q.s.Hv X.g) q.op=some v/\dS (ga X.gl (q.s.tm X.g)) (sp.Hv X.g) q.op=some v/\dS (ga X.gl (q.s.tm X.g)) (sq.Hv X.g) q.op=some v)/\k=some r:=by
 unfold Ll at h;split at h
 ·rename_i hp;obtain ⟨v,h1,h⟩:=Bw hg h;exact ⟨⟨_,AV.Ad _,h1,by rw [IL hp _ (q.s.Hv X.g)];exact h1,by rw [IL hp _ (q.s.Hv X.g)];exact h1⟩,h⟩
 obtain ⟨v,h1,h⟩:=Bw hg h;obtain ⟨w,h2,h⟩:=Bw hg h;obtain ⟨⟨e1,es⟩,h⟩:=MX (g:=X.g) h;obtain ⟨w2,h3,h⟩:=Bw hg h;obtain ⟨⟨e2,_⟩,h⟩:=MX (g:=X.g) h;exact ⟨⟨_,es,h1,by rw [h2,e1],by rw [h3,e2]⟩,h⟩
def C6 (X:Cx G) (bf:List Nat) (j:Nat) (sp sq:DS G):List (Rd G)->Option R->Option R
 | [],k=>k
 | q::rs,k=>if bit bf j q.i then C6 X bf j sp sq rs k else Ll X q sp sq (C6 X bf j sp sq rs k)
def C7 (X:Cx G) (bf:List Nat) (q:Rd G):List (Nat×DS G×DS G)->Option R->Option R
 | [],k=>k
 | (j,sp,sq)::hs,k=>if bit bf q.i j then C7 X bf q hs k else Ll X q sp sq (C7 X bf q hs k)
def dX (X:Cx G) (rec:Rec G) (bf:List Nat):List bH->Nat->An->List (Rd G)->List (Nat×DS G×DS G)->DS G->(DS G->Option R)->Option R
 | [],_,_,_,_,s,k=>k s
 | o::os,i,a,rs,hs,s,k=>match o.guard with
  | some _=>none
  | none=>(match o.op.kind with
   | .pure=>vR X rec false (a.op i) o.dst o.op s fun s'=>dX X rec bf os (i+1) a rs hs s' k
   | .read=>vR X rec false (a.op i) o.dst o.op s fun s'=>C7 X bf ⟨i,o.op,s⟩ hs (dX X rec bf os (i+1) a (⟨i,o.op,s⟩::rs) hs s' k)
   | _=>vR X rec false (a.op i) o.dst o.op s fun s'=>C6 X bf i s s' rs (dX X rec bf os (i+1) a rs ((i,s,s')::hs) s' k))
def RdA (X:Cx G) (q:Rd G) (p:Nat×(List Obj->Option AV)×AV):Prop:=p.1=q.i/\(∀ A,p.2.1 A=dS (ga X.gl (q.s.tm X.g)) A q.op)/\p.2.1 (q.s.Hv X.g)=some p.2.2
def HsA (X:Cx G) (hs:List (Nat×DS G×DS G)):List (Nat×List Obj×List Obj):=hs.map fun h=>(h.1,h.2.1.Hv X.g,h.2.2.Hv X.g)
inductive YK (X:Cx G):List (Rd G)->List (Nat×(List Obj->Option AV)×AV)->Prop
 | nil:YK X [] []
 | cons {q:Rd G} {p:Nat×(List Obj->Option AV)×AV} {rs ps} (h:RdA X q p) (t:YK X rs ps):YK X (q::rs) (p::ps)
theorem IM {X:Cx G} (hg:X.g.Ok) {q:Rd G} {p:Nat×(List Obj->Option AV)×AV} (hq:RdA X q p) {sp sq:DS G} {k:Option R} {r:R} (h:Ll X q sp sq k=some r):
 (jx p.2.1 p.2.2 (sp.Hv X.g)&&jx p.2.1 p.2.2 (sq.Hv X.g))=true/\k=some r:=by
 obtain ⟨⟨v,hs,h1,h2,h3⟩,hk⟩:=Sj hg h;obtain ⟨_,e,ev⟩:=hq;rw [e,h1] at ev;injection ev with ev
 refine ⟨?_,hk⟩;unfold jx;rw [e,e,h2,h3,<-ev];simp only [hs,zbM]
theorem r6 {X:Cx G} (hg:X.g.Ok) {bf:List Nat} {j:Nat} {sp sq:DS G}:∀ {rs:List (Rd G)} {ps:List (Nat×(List Obj->Option AV)×AV)} {k:Option R} {r:R},YK X rs ps->C6 X bf j sp sq rs k=some r->
 (ps.all fun p=>bit bf j p.1||(jx p.2.1 p.2.2 (sp.Hv X.g)&&jx p.2.1 p.2.2 (sq.Hv X.g)))=true/\k=some r
 | _,_,k,r,.nil,h=>⟨rfl,h⟩
 | q::rs,p::ps,k,r,.cons hq ht,h=>by
  rw [C6] at h;rw [zbI];split at h
  ·rename_i hb;obtain ⟨h1,h2⟩:=r6 hg ht h;rw [<-hq.1] at hb;rw [hb,h1];exact ⟨rfl,h2⟩
  ·obtain ⟨h0,h⟩:=IM hg hq h;obtain ⟨h1,h2⟩:=r6 hg ht h;rw [h0,h1,zbK];exact ⟨rfl,h2⟩
theorem xB {X:Cx G} (hg:X.g.Ok) {bf:List Nat} {q:Rd G} {p:Nat×(List Obj->Option AV)×AV} (hq:RdA X q p):∀ {hs:List (Nat×DS G×DS G)} {k:Option R} {r:R},C7 X bf q hs k=some r->
 ((HsA X hs).all fun h=>bit bf p.1 h.1||(jx p.2.1 p.2.2 h.2.1&&jx p.2.1 p.2.2 h.2.2))=true/\k=some r
 | [],k,r,h=>⟨rfl,h⟩
 | (j,sp,sq)::hs,k,r,h=>by
  rw [C7] at h;show ((bit bf p.1 j||(jx p.2.1 p.2.2 (sp.Hv X.g)&&jx p.2.1 p.2.2 (sq.Hv X.g)))&&(HsA X hs).all _)=true/\_;split at h
  ·rename_i hb;obtain ⟨h1,h2⟩:=xB hg hq h;rw [<-hq.1] at hb;rw [hb,h1];exact ⟨rfl,h2⟩
  ·obtain ⟨h0,h⟩:=IM hg hq h;obtain ⟨h1,h2⟩:=xB hg hq h;rw [h0,h1,zbK];exact ⟨rfl,h2⟩
theorem Sk {Gl:Nat->List AV} {hp:Nat->Bool} {cI:CI} {cH:CH} {d:Option Nat} {op:RO} {t t':T} {H H':List Obj} (h:aZ Gl hp cI cH [⟨d,none,op⟩] t H=some (t',H')):
 ∃ v,lB Gl hp cI cH ⟨d,none,op⟩ t H=some (v,H')/\t'=cS t d v:=by
 rw [aZ] at h;simp only [dh] at h;split at h
 case h_2=>cases h
 rename_i v H1 he;rw [dU,aZ] at h;injection h with h
 injection h with h1 h2
 subst h1;subst h2;exact ⟨v,by unfold lB;simp only [dh];exact he,rfl⟩
theorem OT {Gl:Nat->List AV} {hp:Nat->Bool} {a b:CI} {c d:CH} (h1:a.le b) (h2:c.le d) {o:bH} {t:T} {H:List Obj} {r} (h:lB Gl hp a c o t H=some r):lB Gl hp b d o t H=some r:=by
 unfold lB at h ⊢;split at h
 ·rename_i hw;try simp only [hw]
  exact fU h1 h2 h
 ·rename_i hw;try simp only [hw]
  exact h
 ·cases h
def RX1 (E:Env) (hp:Nat->Bool) (bf:List Nat) (os:List bH) (i:Nat) (rs:List (Nat×(List Obj->Option AV)×AV)) (hs:List (Nat×List Obj×List Obj)) (t:T) (H:List Obj) (Q:T->List Obj->Prop):Prop:=
 ∃ n t' H',g9 E.aF hp (kh E.fns (ak E hp n)) (kg E.fns (ak E hp n)) bf os i rs hs t H=some (t',H')/\Q t' H'
theorem r7 {E:Env} {hp:Nat->Bool} {bf:List Nat} {d:Option Nat} {op:RO} {os:List bH} {i:Nat} {rs rs':List (Nat×(List Obj->Option AV)×AV)} {hs hs':List (Nat×List Obj×List Obj)} {t:T} {H H':List Obj} {v:AV} {n:Nat} {Q:T->List Obj->Prop}
 (ha:lB E.aF hp (kh E.fns (ak E hp n)) (kg E.fns (ak E hp n)) ⟨d,none,op⟩ t H=some (v,H'))
 (hc:∀ K:Option (T×List Obj)->Option (T×List Obj),(match op.kind with
  | .pure=>K (some (t,H))
  | .read=>if (hs.all fun h=>bit bf i h.1||(jx (JA E.aF ⟨d,none,op⟩ t) v h.2.1&&jx (JA E.aF ⟨d,none,op⟩ t) v h.2.2))=true then K (some (t,H)) else none
  | _=>if (rs.all fun r=>bit bf i r.1||(jx r.2.1 r.2.2 H&&jx r.2.1 r.2.2 H'))=true then K (some (t,H)) else none)=K (some (t,H)))
 (hr:rs'=match op.kind with | .read=>(i,JA E.aF ⟨d,none,op⟩ t,v)::rs | _=>rs)
 (hh:hs'=match op.kind with | .pure=>hs | .read=>hs | _=>(i,H,H')::hs)
 (h:RX1 E hp bf os (i+1) rs' hs' (cS t d v) H' Q):RX1 E hp bf (⟨d,none,op⟩::os) i rs hs t H Q:=by
 obtain ⟨m,t1,H1,h1,hq⟩:=h;refine ⟨max n m,t1,H1,?_,hq⟩;have l1:(kh E.fns (ak E hp n)).le (kh E.fns (ak E hp (max n m))):=dW E.fns (bN (zby n m));have l2:(kg E.fns (ak E hp n)).le (kg E.fns (ak E hp (max n m))):=fL E.fns (bN (zby n m));have m1:(kh E.fns (ak E hp m)).le (kh E.fns (ak E hp (max n m))):=dW E.fns (bN (zbs n m));have m2:(kg E.fns (ak E hp m)).le (kg E.fns (ak E hp (max n m))):=fL E.fns (bN (zbs n m));rw [g9,OT l1 l2 ha];simp only [dU];have h2:=nV m1 m2 bf os h1
 cases hk:op.kind with
 | pure=>rw [hk] at hr hh;dsimp only at hr hh ⊢;subst hr;subst hh;exact h2
 | read=>
  rw [hk] at hr hh;dsimp only at hr hh ⊢;subst hr;subst hh;split
  ·exact h2
  ·rename_i hn;have:=hc (fun _=>some (t,H));rw [hk] at this;dsimp only at this;rw [if_neg hn] at this;cases this
 | write=>
  rw [hk] at hr hh;dsimp only at hr hh ⊢;subst hr;subst hh;split
  ·exact h2
  ·rename_i hn;have:=hc (fun _=>some (t,H));rw [hk] at this;dsimp only at this;rw [if_neg hn] at this;cases this
 | call=>
  rw [hk] at hr hh;dsimp only at hr hh ⊢;subst hr;subst hh;split
  ·exact h2
  ·rename_i hn;have:=hc (fun _=>some (t,H));rw [hk] at this;dsimp only at this;rw [if_neg hn] at this;cases this
theorem C1 {X:Cx G} {E:Env} (hX:X.Ok E) {rec:Rec G} (hr:nD E X.hp X.g rec) {bf:List Nat} {r:R} {Q:T->List Obj->Prop}:∀ (os:List bH) {i:Nat} {a:An} {rs:List (Rd G)} {ps:List (Nat×(List Obj->Option AV)×AV)} {hs:List (Nat×DS G×DS G)} {s:DS G} {k:DS G->Option R},
 YK X rs ps->dX X rec bf os i a rs hs s k=some r->(∀ s',s'.FR X.g=s.FR X.g->k s'=some r->Q (s'.tm X.g) (s'.Hv X.g))->RX1 E X.hp bf os i ps (HsA X hs) (s.tm X.g) (s.Hv X.g) Q
 | [],i,a,rs,ps,hs,s,k,_,h,hk=>⟨0,_,_,rfl,hk s rfl h⟩
 | ⟨d,gd,op⟩::os,i,a,rs,ps,hs,s,k,P9,h,hk=>by
  rw [dX] at h
  cases gd with
  | some p=>cases h
  | none=>
   dsimp only at h;have act:∀ {c:DS G->Option R},vR X rec false (a.op i) d op s c=some r->∃ n v,∃ s':DS G,lB E.aF X.hp (kh E.fns (ak E X.hp n)) (kg E.fns (ak E X.hp n)) ⟨d,none,op⟩ (s.tm X.g) (s.Hv X.g)=some (v,s'.Hv X.g)/\s'.tm X.g=cS (s.tm X.g) d v/\s'.FR X.g=s.FR X.g/\c s'=some r:=by
    intro c h;have:=IN (E:=E) (os:=[]) (Q:=fun t' H'=>∃ s':DS G,s'.tm X.g=t'/\s'.Hv X.g=H'/\s'.FR X.g=s.FR X.g/\c s'=some r) hX hr h (fun s' h1 h2=>MY.2 ⟨s',rfl,rfl,h1,h2⟩);obtain ⟨n,t',H',h1,s',e1,e2,e3,e4⟩:=this;obtain ⟨v,h2,h3⟩:=Sk h1;exact ⟨n,v,s',by rw [e2];exact h2,by rw [e1,h3],e3,e4⟩
   cases zw:op.kind with
   | pure=>
    rw [zw] at h;dsimp only at h;obtain ⟨n,v,s',h1,h2,h3,h4⟩:=act h;refine r7 h1 (fun K=>by rw [zw]) (by rw [zw]) (by rw [zw]) ?_;have:=C1 hX hr os P9 h4 (Q:=Q) fun s'' q1 q2=>hk s'' (by rw [q1,h3]) q2
    rw [h2] at this;exact this
   | read=>
    rw [zw] at h;dsimp only at h;obtain ⟨n,v,s',h1,h2,h3,h4⟩:=act h;have hq:RdA X ⟨i,op,s⟩ (i,JA E.aF ⟨d,none,op⟩ (s.tm X.g),v):=by
     refine ⟨rfl,fun A=>?_,?_⟩
     ·show JA E.aF ⟨d,none,op⟩ (s.tm X.g) A=_;unfold JA;simp only [dh];rw [hX.gl]
     ·show JA E.aF ⟨d,none,op⟩ (s.tm X.g) (s.Hv X.g)=some v;unfold lB at h1;unfold JA;simp only [dh] at h1 ⊢;unfold bW at h1;rw [zw] at h1;dsimp only at h1;split at h1
      ·rename_i u hu;injection h1 with h1;injection h1 with h1 _;subst h1;exact hu
      ·cases h1
    obtain ⟨hall,h4⟩:=xB hX.g hq h4;refine r7 h1 (fun K=>by rw [zw];dsimp only;rw [if_pos hall]) (by rw [zw]) (by rw [zw]) ?_;have:=C1 hX hr os (.cons hq P9) h4 (Q:=Q) fun s'' q1 q2=>hk s'' (by rw [q1,h3]) q2
    rw [h2] at this;exact this
   | write=>
    rw [zw] at h;dsimp only at h;obtain ⟨n,v,s',h1,h2,h3,h4⟩:=act h;obtain ⟨hall,h4⟩:=r6 hX.g P9 h4;refine r7 h1 (fun K=>by rw [zw];dsimp only;rw [if_pos hall]) (by rw [zw]) (by rw [zw]) ?_;have:=C1 hX hr os P9 h4 (Q:=Q) fun s'' q1 q2=>hk s'' (by rw [q1,h3]) q2
    rw [h2] at this;exact this
   | call=>
    rw [zw] at h;dsimp only at h;obtain ⟨n,v,s',h1,h2,h3,h4⟩:=act h;obtain ⟨hall,h4⟩:=r6 hX.g P9 h4;refine r7 h1 (fun K=>by rw [zw];dsimp only;rw [if_pos hall]) (by rw [zw]) (by rw [zw]) ?_;have:=C1 hX hr os P9 h4 (Q:=Q) fun s'' q1 q2=>hk s'' (by rw [q1,h3]) q2
    rw [h2] at this;exact this
theorem OF {E:Env} {hp:Nat->Bool} {os:List bH} {bf:List Nat} {b:Nat} {Q:Ex->ST->Prop} {s:ST} (h:RX1 E hp bf os 0 [] [] s.tmps s.H (fun t H=>Q .normal ⟨t,H⟩)):WP E hp (.jG os bf) b Q s:=by
 obtain ⟨n,t',H',h1,hq⟩:=h;exact ⟨n+1,_,_,by rw [ak,h1],hq⟩
end
end oe
end
