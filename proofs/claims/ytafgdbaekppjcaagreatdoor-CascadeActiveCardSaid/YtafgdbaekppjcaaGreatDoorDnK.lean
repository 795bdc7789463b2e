/- Parts of my machine and its laws, joined: DnK DnX. No condition. -/
import Derived.Test.YtafgdbaekppjcaaGreatDoorDnJ
set_option linter.unusedSectionVars false
set_option linter.unusedVariables false
set_option linter.unusedSimpArgs false
section
namespace oZ
open Go hiding Obj mark
open Go.Pl Go.Am Go.Am.As
section
variable {G:Nat->Type} {R:Type}
def kA:TV G->Option (List Nat)
 | .own i=>some [i]
 | .po i _=>some [i]
 | .pe i _ _=>some [i]
 | .pa i _ _ _=>some [i]
 | .sa ..=>none
 | .raw v=>some (refs v)
 | _=>some []
theorem jT {g:Ge G} {ln:Nat->Nat} {v:TV G} {l:List Nat} (h:kA v=some l):refs (v.av g ln)=l:=by
 cases v with
 | sa=>cases h
 | gC t o=>cases o<;>exact zbm h
 | eg t o=>cases o<;>exact zbm h
 | _=>exact zbm h
def wL:List (TV G)->Option (List Nat)
 | []=>some []
 | x::xs=>(match kA x with
  | some a=>(match wL xs with | some b=>some (a++b) | none=>none)
  | none=>none)
theorem tO {g:Ge G} {ln:Nat->Nat}:∀ {l:List (TV G)} {m:List Nat},wL l=some m->(TV.aS g ln l).flatMap refs=m
 | [],m,h=>zbm h
 | x::l,m,h=>by
  rw [wL] at h;split at h
  case h_2=>cases h
  rename_i a ha;split at h
  case h_2=>cases h
  rename_i b hb;injection h with h;subst h
  rw [TV.aS,zbR,jT ha,tO hb]
def fpV (gl:Nat->List AV) (s:DS G) (pl:Nat):RO->Option FP
 | .load _ _ a=>(match kA (s.rx gl a) with | some l=>some { r:=l } | none=>none)
 | .jb _ x _=>(match kA (s.rx gl x) with | some l=>some { r:=l } | none=>none)
 | .slc _ x _ _=>(match kA (s.rx gl x) with | some l=>some { r:=l } | none=>none)
 | .box _=>some { w:=[pl] }
 | .alloc _=>some { w:=[pl] }
 | .u5 ..=>some { w:=[pl] }
 | .mY ..=>some { w:=[pl] }
 | .F9 ..=>some { w:=[pl] }
 | .store _ a _=>(match kA (s.rx gl a) with | some l=>some { w:=l } | none=>none)
 | .app _ _ x y=>(match kA (s.rx gl y) with
  | some l=>(match kA (s.rx gl x) with | some m=>some { r:=l,w:=pl::m } | none=>none)
  | none=>none)
 | .md _ _ x y=>(match kA (s.rx gl y) with
  | some l=>(match kA (s.rx gl x) with | some m=>some { r:=l,w:=pl::m } | none=>none)
  | none=>none)
 | .sj _ args=>(match wL (args.map (s.rx gl)) with | some l=>some { r:=l,w:=[pl] } | none=>none)
 | .call _ args=>(match wL (args.map (s.rx gl)) with | some l=>some { r:=l } | none=>none)
 | .F6 _=>some {}
 | .pick ..=>some {}
 | .build ..=>some {}
 | .bin ..=>some {}
 | .un ..=>some {}
 | .BZ ..=>some {}
 | .F7 ..=>some {}
 | .F8 ..=>some {}
 | .pF _=>some {}
 | .conv ..=>some {}
 | .Rg ..=>some {}
 | .u0 ..=>some {}
 | .mc ..=>some {}
 | .nj ..=>some {}
 | .oU ..=>some {}
 | .oV ..=>some {}
 | .N2 ..=>some {}
 | .len ..=>some {}
 | .mn _=>some {}
 | .mx _=>some {}
 | .ext ..=>some {}
 | .HV _=>some {}
 | .iV _ _ _ m _=>(match kA (s.rx gl m) with | some l=>some { r:=l } | none=>none)
 | .jx m=>(match kA (s.rx gl m) with | some l=>some { r:=l } | none=>none)
 | .iU _ m _ _=>(match kA (s.rx gl m) with | some l=>some { w:=l } | none=>none)
 | .HW=>some { w:=[pl] }
 | .gr f args=>if (s.rx gl f).free&&TV.mM (args.map (s.rx gl)) then some {} else none
 | _=>none
theorem Vj {g:Ge G} (hg:g.Ok) {gl:Nat->List AV} {s:DS G} {pl:Nat} {op:RO} {fp:FP} (h:fpV gl s pl op=some fp):mN (gq gl (s.tm g)) pl op=fp:=by
 have rx:=DS.mQ g gl s
 cases op<;>first | exact zbm h | exact IX h | skip
 all_goals
  unfold fpV at h;dsimp only at h
 case gr f args=>
  split at h
  case isFalse=>cases h
  rename_i hf;rw [za0] at hf;injection h with h;subst h
  have h1:=nM hg s.ln _ hf.1;have h2:=eP hg s.ln _ hf.2;simp only [mN,rx,DS.gL,h1,h2];rfl
 case sj f args=>
  split at h
  case h_2=>cases h
  rename_i l hl;injection h with h;subst h
  simp only [mN,DS.gL,tO hl]
 case call f args=>
  split at h
  case h_2=>cases h
  rename_i l hl;injection h with h;subst h
  simp only [mN,DS.gL,tO hl]
 case app=>
  split at h
  case h_2=>cases h
  rename_i l hl;split at h
  case h_2=>cases h
  rename_i m hm;injection h with h;subst h
  simp only [mN,rx,jT hl,jT hm]
 case md=>
  split at h
  case h_2=>cases h
  rename_i l hl;split at h
  case h_2=>cases h
  rename_i m hm;injection h with h;subst h
  simp only [mN,rx,jT hl,jT hm]
 all_goals
  split at h
  case h_2=>cases h
  rename_i l hl;injection h with h;subst h
  simp only [mN,rx,jT hl]
def KJ (H:List (TO G)):TV G->Bool
 | .own id=>(match H[id]? with
  | some (.aL ..)=>true
  | some (.cX _ _ es)=>jJ es
  | _=>false)
 | _=>false
def KK (H:List (TO G)) (v:TV G):Bool:=v.free||KJ H v
def p6 (H:List (TO G)):List (TV G)->Bool
 | []=>true
 | x::xs=>KK H x&&p6 H xs
theorem Np {g:Ge G} (hg:g.Ok) {s:DS G} {v:TV G} (h:KJ s.H v=true):(lz (s.Hv g) (v.av g s.ln)).isSome=true:=by
 unfold KJ at h;split at h
 case h_2=>cases h
 rename_i id;split at h
 ·rename_i fl t l hid;have hp:BV s.H 6 (.own id)=some (.aL t l):=by
   show (if (TV.own id:TV G).free then some _ else match s.H[id]? with | _=>_)=_;rw [show (TV.own id:TV G).free=false from rfl];simp only [za8,if_false,hid]
  have hk:=mm hg 6 hp;unfold lz;rw [if_neg (by simp [TV.av,AV.bp])];show (match (s.Hv g)[id]? with | some (.live _ _ es)=>_ | _=>none).isSome=true;rw [bw hid];simp only [TO.av,zaQ,lB hid];rw [zad (by simp),if_pos (gw (c6 hg t).bp l)];have hk':pk 6 (s.Hv g) (.own id l.length 0 l.length)=some (.ro (l.map (enc g t))):=by
   rw [show (TV.own id:TV G).av g s.ln= .own id (s.ln id) 0 (s.ln id) from rfl,lB hid] at hk;exact hk
  rw [hk'];rfl
 ·rename_i fl sz es hid;have e:s.ln id=es.length:=by unfold DS.ln kg;rw [hid];rfl
  have hp:BV s.H 6 (.own id)=some (.qx es):=by
   show (if (TV.own id:TV G).free then some _ else match s.H[id]? with | _=>_)=_;rw [show (TV.own id:TV G).free=false from rfl];simp only [za8,if_false,hid,h,if_true]
  have hk:=mm hg 6 hp;unfold lz;rw [if_neg (by simp [TV.av,AV.bp])];show (match (s.Hv g)[id]? with | some (.live _ _ es)=>_ | _=>none).isSome=true;rw [bw hid];have hle:(TV.dc g s.ln es).length=es.length:=by rw [br,zah]
  simp only [TO.av,zaQ,e];rw [zad (by rw [hle];exact za6 _),if_pos (fZ hg s.ln es h)];rw [show (TV.own id:TV G).av g s.ln= .own id (s.ln id) 0 (s.ln id) from rfl,e] at hk;rw [hk];rfl
 ·cases h
theorem DD {g:Ge G} (hg:g.Ok) {s:DS G} {v:TV G} (h:KK s.H v=true):(lz (s.Hv g) (v.av g s.ln)).isSome=true:=by
 unfold KK at h;rcases (zat _ _).mp h with h | h
 ·unfold lz;rw [if_pos (nM hg _ v h)];rfl
 ·exact Np hg h
theorem z8 {g:Ge G} (hg:g.Ok) {s:DS G}:∀ {l:List (TV G)},p6 s.H l=true->mu (s.Hv g) (TV.aS g s.ln l)=true
 | [],_=>rfl
 | x::l,h=>by
  rw [p6,za0] at h;have h1:=DD hg h.1;have h2:=z8 hg h.2;unfold mu at h2 ⊢;rw [TV.aS,ku]
  cases ha:lz (s.Hv g) (x.av g s.ln) with
  | none=>rw [ha] at h1;cases h1
  | some a=>cases hb:ku (s.Hv g) (TV.aS g s.ln l) with
   | none=>rw [hb] at h2;cases h2
   | some b=>rfl
def O2 (w:List Nat) (v:TV G) (s:DS G) (c:TV G->DS G->Option R):Option R:=match v with
 | .own id=>if mg id w then (match s.H[id]? with
  | some (.aL fl t l)=>if fl.free then c (.aL t l) (s.ec id .dead) else none
  | some (.cX fl sz es)=>if fl.free&&(jJ es&&jh es) then c (.qx es) (s.ec id .dead) else none
  | _=>none) else none
 | _=>none
theorem DE {x:Nat}:∀ {l:List Nat},mg x l=true->x∈l
 | y::l,h=>by
  rw [mg,zat] at h;rcases h with h | h
  ·rw [za3 h];exact zb4 ..
  ·exact zaC _ (DE h)
theorem BA {g:Ge G} (hg:g.Ok) {w:List Nat} {v:TV G} {s:DS G} {c:TV G->DS G->Option R} {r:R} (h:O2 w v s c=some r):iG g s (eU w (some (v.av g s.ln,s.Hv g))) c r:=by
 unfold O2 at h;split at h
 case h_2=>cases h
 rename_i id;split at h
 case isFalse=>cases h
 rename_i hm;have hw:((refs ((TV.own id:TV G).av g s.ln)).all fun i=>w.contains i)=true:=by
  simp [TV.av,refs,DE hm]
 have fin:∀ {o:TO G} {v':TV G} {fl:Fl} {sz:Nat} {es:List (List AV)},s.H[id]?=some o->o.av g s.ln (s.FR g)= .live fl sz es->o.len=es.length->AV.bN 0 es=true->fl.free=true->v'.av g (s.ec id .dead).ln= .ro es->c v' (s.ec id .dead)=some r->iG g s (eU w (some ((TV.own id:TV G).av g s.ln,s.Hv g))) c r:=by
  intro o v' fl sz es hid h1 h2 h3 h4 h5 h6;obtain ⟨k1,k2,k3,k4⟩:=qY (g:=g) (o':= .dead) hid;have e:s.ln id=es.length:=by unfold DS.ln kg;rw [hid];exact h2
  have hH:(s.Hv g)[id]?=some (.live fl sz es):=by rw [bw hid,h1]
  refine ⟨v',_,?_,k2,k3,h6⟩;unfold eU;dsimp only;rw [if_pos hw];have hf:ke 0 ⟨[(TV.own id:TV G).av g s.ln],s.Hv g⟩=some ⟨[.ro es],(s.Hv g).set id .dead⟩:=by
   unfold ke;rw [show (TV.own id:TV G).av g s.ln= .own id (s.ln id) 0 (s.ln id) from rfl,e];show (match aH (s.Hv g) id with | some (_,es')=>_ | none=>none)=_;simp only [aH,hH,zaQ,cD];rw [zad (za6 _),if_pos ⟨trivial,h3,h4⟩];rfl
  rw [hf];dsimp only;rw [k4,h5];rfl
 split at h
 ·rename_i fl t l hid;split at h
  case isFalse=>cases h
  rename_i hf;exact fin hid rfl (by simp [TO.len]) (gw (c6 hg t).bp l) hf rfl h
 ·rename_i fl sz es hid;split at h
  case isFalse=>cases h
  rename_i hf;simp only [za0] at hf;refine fin hid rfl (by simp [TO.len,br]) (fZ hg s.ln es hf.2.1) hf.1 ?_ h;show AV.ro _=AV.ro _;rw [gi es hf.2.2]
 ·cases h
structure ey (G:Nat->Type) where
 f:Nat
 args:List Sh
 ts:List Ty
 t:Ty
 m:DL G ts->Option (List (t.D G))
def ey.vs (g:Ge G) (c:ey G) (x:DL G c.ts):List (TV G):=pL g c.args (aM g c.ts x)
def ey.Ok (E:Env) (hp:Nat->Bool) (g:Ge G) (c:ey G):Prop:=∀ x l,c.m x=some l->l≠[]->∃ n,j5 E.fns (ak E hp n) c.f (.aA 0 0 0 0::TV.aS g (fun _=>0) (c.vs g x))=some (.bl [.aA 0 0 (c.t.n g) 0,.ro (l.map (enc g c.t))])
def jU (g:Ge G) (f:Nat) (ys:List (TV G)):List (ey G)->Option ((c:ey G)×DL G c.ts)
 | []=>none
 | c::r=>if Nat.beq c.f f then (match Cy g c.args ys with
  | some l=>(match nq g c.ts l with
   | some x=>some ⟨c,x⟩
   | none=>jU g f ys r)
  | none=>jU g f ys r) else jU g f ys r
theorem uz {g:Ge G} (hg:g.Ok) {f:Nat} {ys:List (TV G)} {ln:Nat->Nat}:∀ {C:List (ey G)} {p:(c:ey G)×DL G c.ts},jU g f ys C=some p->p.1∈C/\p.1.f=f/\TV.aS g ln (p.1.vs g p.2)=TV.aS g ln ys
 | [],p,h=>by cases h
 | c::r,p,h=>by
  have tl:jU g f ys r=some p->p.1∈c::r/\p.1.f=f/\TV.aS g ln (p.1.vs g p.2)=TV.aS g ln ys:=fun h=>by
   obtain ⟨h1,h2⟩:=uz hg h;exact ⟨zaC _ h1,h2⟩
  rw [jU] at h;split at h
  case isFalse=>exact tl h
  rename_i hf;split at h
  case h_2=>exact tl h
  rename_i l hl;split at h
  case h_2=>exact tl h
  rename_i x hx;injection h with h;subst h
  exact ⟨zb4 ..,za3 hf,xF hl (by rw [ig hg,kB hg ln _ _ _ hx])⟩
def R7:Ty->Bool
 | .int _ | .bool | .str=>true
 | _=>false
theorem Nq {g:Ge G} {t:Ty} (h:R7 t=true) (l:List (t.D G)):wj (.ro (l.map (enc g t)))=true:=by
 show (l.map (enc g t)).all AV.jF=true;rw [List.all_map,zai];intro x _
 cases t<;>first | rfl | cases h
theorem DF {g:Ge G} (hg:g.Ok) {s:DS G}:∀ {l ys:List (TV G)},p6 s.H l=true->pE (BV s.H 6) l=some ys->ku (s.Hv g) (TV.aS g s.ln l)=some (TV.aS g s.ln ys)
 | [],ys,_,hp=>by injection hp with hp;subst hp;rfl
 | x::l,ys,hl,hp=>by
  rw [p6,za0] at hl;rw [pE] at hp;split at hp
  case h_2=>cases hp
  rename_i y hy;split at hp
  case h_2=>cases hp
  rename_i m hm;injection hp with hp;subst hp
  have h1:=mm hg 6 hy;have h2:lz (s.Hv g) (x.av g s.ln)=some (y.av g s.ln):=by
   have hs:=DD hg hl.1;unfold lz at hs ⊢;split
   ·rename_i hb;rw [jd hb] at h1;exact h1
   ·rename_i hb;rw [if_neg hb] at hs;split at hs
    ·rename_i e;rw [e] at h1;split at hs
     ·split at hs
      ·rename_i hq;rw [if_pos hq];exact h1
      ·cases hs
     ·cases hs
    ·cases hs
  rw [TV.aS,TV.aS,ku,h2,DF hg hl.2 hm]
def TK (X:Cx G) (CM:List (ey G)) (rec:Rec G) (pl:Nat) (s:DS G) (op:RO) (k:TV G->DS G->Option R):Option R:=match op with
 | .call f args=>if p6 s.H (args.map (s.rx X.gl)) then
  (match pE (BV s.H 6) (args.map (s.rx X.gl)) with
   | some ys=>Cz X s f (args.map (s.rx X.gl)) ys k none
   | none=>none) else none
 | .gr fx args=>(match OQ (s.rx X.gl fx) with
  | some p=>(match pE (BV s.H 6) (args.map (s.rx X.gl)++p.2) with
   | some ys=>Cz X s p.1 (args.map (s.rx X.gl)++p.2) ys k none
   | none=>none)
  | none=>none)
 | .sj f args=>if p6 s.H (args.map (s.rx X.gl)) then
  (match pE (BV s.H 6) (args.map (s.rx X.gl)) with
   | some ys=>(match jU X.g f ys CM with
   | some p=>if (TV.mM (args.map (s.rx X.gl))||R7 p.1.t)&&ic (p.1.vs X.g p.2) then (p.1.m p.2).bind fun l=>(Od l).bind fun _=>if s.fits pl (.aL .norm p.1.t l) then k (.own pl) (s.eE pl (.aL .norm p.1.t l)) else none else none
   | none=>none)
   | none=>none) else none
 | .md sz qC x y=>(match kA (s.rx X.gl x) with
  | some w=>Og X.g s sz qC (s.rx X.gl x) (s.rx X.gl y) fun v s'=>O2 (pl::w) v s' k
  | none=>none)
 | .mY sz z len parts=>Of X.g s pl sz z len (parts.map fun p=>(p.1,s.rx X.gl p.2)) fun v s'=>O2 [pl] v s' k
 | op=>ev X.g X.gl s pl op k
def R8 (H:List (TO G)) (pl:Nat) (op:RO):Bool:= !op.ef||(match H[pl]? with | some .iA=>true | _=>false)
def Xb (X:Cx G) (CM:List (ey G)) (rec:Rec G) (b0:Nat) (o:Nat×bH) (s:DS G) (k:DS G->FP->Option R):Option R:=match fpV X.gl s (b0+o.1) o.2.op with
 | some fp=>if R8 s.H (b0+o.1) o.2.op then TK X CM rec (b0+o.1) s o.2.op fun v s'=>k (s'.cZ o.2.dst v) fp else none
 | none=>none
def NS (X:Cx G) (CM:List (ey G)) (rec:Rec G) (b0:Nat):List (Nat×bH)->DS G->(DS G->List FP->Option R)->Option R
 | [],s,k=>k s []
 | o::os,s,k=>(match o.2.guard with
  | none=>Xb X CM rec b0 o s fun s' fp=>NS X CM rec b0 os s' fun s'' fs=>k s'' (fp::fs)
  | some p=>(match A1 (s.get p.1) with
   | some c=>if p.2 then
    cond c (Xb X CM rec b0 o (s.rep p.1 (.bool true)) fun s' fp=>NS X CM rec b0 os s' fun s'' fs=>k s'' (fp::fs)) (NS X CM rec b0 os ((s.rep p.1 (.bool false)).cZ o.2.dst (.raw (.bl []))) fun s'' fs=>k s'' ({}::fs))
    else
     cond c (NS X CM rec b0 os ((s.rep p.1 (.bool true)).cZ o.2.dst (.raw (.bl []))) fun s'' fs=>k s'' ({}::fs)) (Xb X CM rec b0 o (s.rep p.1 (.bool false)) fun s' fp=>NS X CM rec b0 os s' fun s'' fs=>k s'' (fp::fs))
   | none=>none))
theorem HE {E:Env} {hp:Nat->Bool} {t:T} {H:List Obj} {b0 k n:Nat} {o:bH} {os:List (Nat×bH)} {v:AV} {H1:List Obj} {f:FP} {K:T->List Obj->List FP->Prop} (h:nF E.aJ (j5 E.fns (ak E hp n)) (b0+k) o t H=some (v,H1,f))
 (hk:WD E hp b0 os (cZ t o.dst v) H1 (fun t' H' fs=>K t' H' (f::fs))):WD E hp b0 ((k,o)::os) t H K:=by
 obtain ⟨m,t',H',fs,h1,h2⟩:=hk;refine ⟨max n m,t',H',f::fs,?_,h2⟩;rw [gF,Dp (ep E.fns (bM (zbp n m))) h];simp only [eo];rw [rV (ep E.fns (bM (zbd n m))) os h1]
theorem iG.trans {g:Ge G} {s s1:DS G} {m:Option (AV×List Obj)} {c:TV G->DS G->Option R} {r:R} (h1:s1.tm g=s.tm g) (h2:s1.FR g=s.FR g) (h:iG g s1 m c r):iG g s m c r:=by
 obtain ⟨w,s',e1,e2,e3,e4⟩:=h;exact ⟨w,s',e1,by rw [e2,h1],by rw [e3,h2],e4⟩
theorem QS {X:Cx G} {E:Env} (hX:X.Ok E) {CM:List (ey G)} (hM:∀ c∈CM,c.Ok E X.hp X.g) {rec:Rec G} {pl:Nat} {s:DS G} {op:RO} {k:TV G->DS G->Option R} {r:R} (h:TK X CM rec pl s op k=some r):
 ∃ n,iG X.g s (fM (gq E.aJ (s.tm X.g)) (j5 E.fns (ak E X.hp n)) pl op (s.Hv X.g)) k r:=by
 have plain:∀ {op:RO},(∀ f a,op≠ .call f a)->(∀ f a,op≠ .sj f a)->(∀ a b c d,op≠ .md a b c d)->(∀ a b c d,op≠ .mY a b c d)->ev X.g X.gl s pl op k=some r->∃ n,iG X.g s (fM (gq E.aJ (s.tm X.g)) (j5 E.fns (ak E X.hp n)) pl op (s.Hv X.g)) k r:=by
  intro op n1 n2 n3 n4 h;obtain ⟨h1,h2⟩:=R9 hX.g h;rw [hX.gl] at h2;refine ⟨0,?_⟩;have:fM (gq E.aJ (s.tm X.g)) (j5 E.fns (ak E X.hp 0)) pl op (s.Hv X.g)=Jm (gq E.aJ (s.tm X.g)) pl op (s.Hv X.g):=by
   unfold fM;split
   ·exact (n2 _ _ rfl).elim
   ·exact (n3 _ _ _ _ rfl).elim
   ·exact (n4 _ _ _ _ rfl).elim
   ·exact (n1 _ _ rfl).elim
   ·exact Fj h1
  rw [this];exact h2
 unfold TK at h;split at h
 ·rename_i f args;split at h
  case isFalse=>cases h
  rename_i hl;split at h
  case h_2=>cases h
  rename_i ys hys;obtain ⟨n,v,H',h1,h2⟩:=xG hX (dr:=true) (.inl rfl) hys h (fun h=>by cases h);obtain ⟨w,s',e1,e2,e3,e4,e5⟩:=h2;refine ⟨n,w,s',?_,e3,e4,e5⟩;unfold fM;dsimp only;have hl':=z8 hX.g hl;rw [hX.gl,<-DS.gL] at hl' h1;rw [if_pos hl'];simp only [bV,RO.kind];rw [show bK (fun _=>false) (j5 E.fns (ak E X.hp n)) (fun _ _ _=>none) f (args.map (gq E.aJ (s.tm X.g))) (s.Hv X.g)=some (v,H') from h1,e1,e2]
 ·rename_i fx args;split at h
  case h_2=>cases h
  rename_i p hp;split at h
  case h_2=>cases h
  rename_i ys hys;obtain ⟨n,v,H',h1,h2⟩:=xG hX (dr:=true) (.inl rfl) hys h (fun h=>by cases h);obtain ⟨w,s',e1,e2,e3,e4,e5⟩:=h2;refine ⟨n,w,s',?_,e3,e4,e5⟩;have JB:gq E.aJ (s.tm X.g) fx= .fn p.1 (TV.aS X.g s.ln p.2):=by
   rw [<-hX.gl,DS.mQ,Bo hp];rfl
  rw [hX.gl,kC,<-DS.gL] at h1;show bV (gq E.aJ (s.tm X.g)) (fun _=>false) (j5 E.fns (ak E X.hp n)) (fun _ _ _=>none) pl (.gr fx args) (s.Hv X.g)=_;simp only [bV,RO.kind,JB];rw [show bK (fun _=>false) (j5 E.fns (ak E X.hp n)) (fun _ _ _=>none) p.1 (args.map (gq E.aJ (s.tm X.g))++TV.aS X.g s.ln p.2) (s.Hv X.g)=some (v,H') from h1,e1,e2]
 ·rename_i f args;split at h
  case isFalse=>cases h
  rename_i hl;split at h
  case h_2=>cases h
  rename_i ys hys;split at h
  case h_2=>cases h
  rename_i p hp;split at h
  case isFalse=>cases h
  rename_i hi;rw [za0] at hi;obtain ⟨hfl,hi⟩:=hi;obtain ⟨l,h1,h2⟩:=bind_some h;obtain ⟨_,h3,h4⟩:=bind_some h2;split at h4
  case isFalse=>cases h4
  rename_i hf;obtain ⟨e1,e2,e3⟩:=uz hX.g (ln:=s.ln) hp;have hne:l≠[]:=by rintro rfl;cases h3
  obtain ⟨n,hn⟩:=hM _ e1 _ _ h1 hne;rw [e2,eR (cj:=s.ln) _ hi,e3] at hn;obtain ⟨k1,k2,k3⟩:=fV (g:=X.g) hf;refine ⟨n,_,_,?_,k1,k2,h4⟩;have hb:(AV.aT 0 (TV.aS X.g s.ln (args.map (s.rx X.gl)))||wj (.ro (l.map (enc X.g p.1.t))))=true:=by
   rcases (zat _ _).mp hfl with hf | hf
   ·rw [eP hX.g s.ln _ hf];rfl
   ·rw [Nq hf l,zbX]
  have Em:=DF hX.g hl hys;unfold fM;dsimp only;unfold mkObj;rw [hX.gl,<-DS.gL] at hb Em;rw [Em];dsimp only;rw [hn];show (if _ then wh pl (s.Hv X.g) (p.1.t.n X.g) (.ro (l.map (enc X.g p.1.t))) else none)=_;rw [if_pos hb,k3];show some (AV.own pl (l.map (enc X.g p.1.t)).length 0 (l.map (enc X.g p.1.t)).length,_)=some (AV.own pl (DS.ln _ pl) 0 (DS.ln _ pl),_);rw [ju (kD hf)];simp [TO.len,TO.av]
 ·rename_i sz qC x y;split at h
  case h_2=>cases h
  rename_i w hw;obtain ⟨v,s',e1,e2,e3,e4⟩:=HF (pl:=pl) hX.g h;refine ⟨0,?_⟩;have:=BA hX.g e4;unfold fM;dsimp only;show iG X.g s (eU _ (Am.append (s.Hv X.g) pl sz qC (gq E.aJ (s.tm X.g) x) (gq E.aJ (s.tm X.g) y))) k r;rw [DS.mQ X.g E.aJ s x,DS.mQ X.g E.aJ s y,<-hX.gl,e1,jT hw];exact this.trans e2 e3
 ·rename_i sz z len parts;obtain ⟨v,s',e1,e2,e3,e4⟩:=HG (g:=X.g) hX.g h;refine ⟨0,?_⟩;have:=BA hX.g e4;unfold fM;dsimp only;rw [zb] at e1;have:dg (gq E.aJ (s.tm X.g)) (s.Hv X.g) pl (.u5 sz z len parts)=some (v.av X.g s'.ln,s'.Hv X.g):=by
   rw [<-hX.gl];simp only [dg,DS.mQ X.g X.gl s];exact e1
  rw [this];exact (BA hX.g e4).trans e2 e3
 ·rename_i n1 n2 n3 n4 n5;exact plain (fun f a e=>n1 f a e) (fun f a e=>n3 f a e) (fun a b c d e=>n4 a b c d e) (fun a b c d e=>n5 a b c d e) h
theorem Fb {X:Cx G} {E:Env} (hX:X.Ok E) {CM:List (ey G)} (hM:∀ c∈CM,c.Ok E X.hp X.g) {rec:Rec G} {b0:Nat} {r:R} {Q:T->List Obj->List FP->Prop}:∀ (os:List (Nat×bH)) {s:DS G} {k:DS G->List FP->Option R},
 NS X CM rec b0 os s k=some r->(∀ s' fs,s'.FR X.g=s.FR X.g->k s' fs=some r->Q (s'.tm X.g) (s'.Hv X.g) fs)->WD E X.hp b0 os (s.tm X.g) (s.Hv X.g) Q
 | [],s,k,h,hk=>Vk (hk s [] rfl h)
 | o::os,s,k,h,hk=>by
  obtain ⟨p,d,gd,op⟩:=o;have go:∀ {s1:DS G},s1.tm X.g=s.tm X.g->s1.Hv X.g=s.Hv X.g->s1.FR X.g=s.FR X.g->dn (s.tm X.g) gd=some true->(Xb X CM rec b0 ⟨p,d,gd,op⟩ s1 fun s' fp=>NS X CM rec b0 os s' fun s'' fs=>k s'' (fp::fs))=some r->WD E X.hp b0 ((p,⟨d,gd,op⟩)::os) (s.tm X.g) (s.Hv X.g) Q:=by
   intro s1 t1 t2 t3 hw h;unfold Xb at h;dsimp only at h;split at h
   case h_2=>cases h
   rename_i fp hfp;split at h
   case isFalse=>cases h
   rename_i dm;obtain ⟨n,w,s',e1,e2,e3,e4⟩:=QS hX hM h;have TL:=Vj hX.g hfp;rw [hX.gl] at TL;have O3:sB (s1.Hv X.g) (b0+p) op=true:=by
    unfold R8 at dm;unfold sB;rcases (zat _ _).mp dm with h | h
    ·rw [h];rfl
    ·split at h
     ·rename_i hr;rw [bw hr];exact (zat _ _).mpr (.inr rfl)
     ·cases h
   rw [t1] at e1 TL;rw [t2] at e1 O3;refine HE (n:=n) (v:=w.av X.g s'.ln) (H1:=s'.Hv X.g) (f:=fp) ?_ ?_
   ·simp only [nF,hw];rw [if_pos O3,e1];dsimp only;rw [TL]
   ·have:=Fb hX hM os (Q:=fun t' H' fs=>Q t' H' (fp::fs)) e4 (fun s'' fs h1 h2=>hk s'' (fp::fs) (by rw [h1,DS.ow,e3,t3]) h2);rw [DS.ox,DS.rz,e2,t1] at this;exact this
  have no:∀ {s1:DS G},s1.tm X.g=s.tm X.g->s1.Hv X.g=s.Hv X.g->s1.FR X.g=s.FR X.g->dn (s.tm X.g) gd=some false->(NS X CM rec b0 os (s1.cZ d (.raw (.bl []))) fun s'' fs=>k s'' ({}::fs))=some r->WD E X.hp b0 ((p,⟨d,gd,op⟩)::os) (s.tm X.g) (s.Hv X.g) Q:=by
   intro s1 t1 t2 t3 hw h;refine HE (n:=0) (v:= .bl []) (H1:=s.Hv X.g) (f:={}) ?_ ?_
   ·simp only [nF,hw]
   ·have:=Fb hX hM os (Q:=fun t' H' fs=>Q t' H' ({}::fs)) h (fun s'' fs h1 h2=>hk s'' ({}::fs) (by rw [h1,DS.ow,t3]) h2);rw [DS.ox,DS.rz,t1,t2] at this;exact this
  rw [NS] at h;dsimp only at h
  cases gd with
  | none=>exact go rfl rfl rfl rfl h
  | some q=>
   obtain ⟨t,b⟩:=q;dsimp only at h;have aP:(s.tm X.g).get t=(s.get t).av X.g s.ln:=DS.ie X.g s t;split at h
   case h_2=>cases h
   rename_i c hc;have hv:=tB hc;rw [hv] at aP;have hw:dn (s.tm X.g) (some (t,b))=some (c==b):=by
    unfold dn;dsimp only;rw [aP];rfl
   have rp:∀ {b':Bool},c=b'->(s.rep t (.bool b')).tm X.g=s.tm X.g/\(s.rep t (.bool b')).Hv X.g=s.Hv X.g/\(s.rep t (.bool b')).FR X.g=s.FR X.g:=by
    intro b' e;subst e;exact Ly (by rw [hv])
   cases b with
   | true=>
    simp only [if_true] at h
    cases c with
    | true=>obtain ⟨r1,r2,r3⟩:=rp rfl;exact go r1 r2 r3 hw h
    | false=>obtain ⟨r1,r2,r3⟩:=rp rfl;exact no r1 r2 r3 hw h
   | false=>
    simp only [za8,if_false] at h
    cases c with
    | true=>obtain ⟨r1,r2,r3⟩:=rp rfl;exact no r1 r2 r3 hw h
    | false=>obtain ⟨r1,r2,r3⟩:=rp rfl;exact go r1 r2 r3 hw h
end
end oZ
end
section
namespace oZ
open Go hiding Obj mark
open Go.Pl Go.Am Go.Am.As
section
variable {G:Nat->Type} {R:Type}
def eqG (ln cj:Nat->Nat) (v w:TV G) (k:Option R):Option R:=match v,w with
 | .own a,.own b=>if Nat.beq a b then (if ln a=cj a then k else none) else none
 | .po a o,.po b q=>if Nat.beq a b&&Nat.beq o q then k else none
 | .int kd n,.int kd' m=>if kd=kd' then (if n=m then k else none) else none
 | .bool x,.bool y=>if x=y then k else none
 | .pe a i o,.pe b j q=>if Nat.beq a b&&Nat.beq o q then (if i=j then (if ln a=cj a then k else none) else none) else none
 | _,_=>none
theorem Lp {g:Ge G} {ln cj:Nat->Nat} {v w:TV G} {k:Option R} {r:R} (h:eqG ln cj v w k=some r):(v.av g ln=w.av g cj/\AV.same (v.av g ln) (v.av g ln)=true)/\k=some r:=by
 have nb:∀ n:Nat,Nat.beq n n=true:=fun n=>Nat.beq_refl n
 cases v<;>cases w<;>simp only [eqG] at h<;>try cases h
 case int.int kd n kd' m=>
  split at h
  case isFalse=>cases h
  rename_i e1;split at h
  case isFalse=>cases h
  rename_i e2;subst e1;subst e2;exact ⟨⟨rfl,by show (decide _&&decide _)=true;simp⟩,h⟩
 case bool.bool x y=>
  split at h
  case isFalse=>cases h
  rename_i e;subst e;exact ⟨⟨rfl,by show (x==x)=true;simp⟩,h⟩
 case po.po a o b q=>
  split at h
  case isFalse=>cases h
  rename_i e;rw [za0] at e;have e1:=za3 e.1;have e2:=za3 e.2;subst e1;subst e2;exact ⟨⟨rfl,by show (Nat.beq _ _&&Nat.beq _ _&&Nat.beq _ _&&Nat.beq _ _)=true;simp only [nb,zbO]⟩,h⟩
 case pe.pe a i o b j q=>
  split at h
  case isFalse=>cases h
  rename_i e;rw [za0] at e;have e1:=za3 e.1;have e2:=za3 e.2;subst e1;subst e2;split at h
  case isFalse=>cases h
  rename_i e3;subst e3;split at h
  case isFalse=>cases h
  rename_i e4;refine ⟨⟨?_,by show (Nat.beq _ _&&Nat.beq _ _&&Nat.beq _ _&&Nat.beq _ _)=true;simp only [nb,zbO]⟩,h⟩;show AV.aA a (ln a) i.toNat o=AV.aA a (cj a) i.toNat o;rw [e4]
 case own.own a b=>
  split at h
  case isFalse=>cases h
  rename_i e;have e1:=za3 e;subst e1;split at h
  case isFalse=>cases h
  rename_i e2;refine ⟨⟨?_,by show (Nat.beq _ _&&Nat.beq _ _&&Nat.beq _ _&&Nat.beq _ _)=true;simp only [nb,zbO]⟩,h⟩;show AV.own a (ln a) 0 (ln a)=AV.own a (cj a) 0 (cj a);rw [e2]
structure Rd (G:Nat->Type) where
 i:Nat
 op:RO
 s:DS G
def Zf:TV G->Bool
 | .int _ _ | .bool _ | .str _ | .aL _ _ | .raw _=>true
 | _=>false
def A4:List (TV G)->Bool
 | []=>true
 | x::l=>Zf x&&A4 l
theorem z0 {g:Ge G} {ln cj:Nat->Nat}:∀ {l:List (TV G)},A4 l=true->TV.aS g ln l=TV.aS g cj l
 | [],_=>rfl
 | x::l,h=>by
  rw [A4,za0] at h;have e:x.av g ln=x.av g cj:=by
   have h1:=h.1
   cases x<;>first | rfl | cases h1
  rw [TV.aS,TV.aS,e,z0 h.2]
def Cr (ln cj:Nat->Nat) (v:TV G) (k:Option R):Option R:=match v with
 | .po _ _=>k
 | .int _ _=>k
 | .own a=>if ln a=cj a then k else none
 | .pe a _ _=>if ln a=cj a then k else none
 | .bZ l=>if A4 l then k else none
 | _=>none
theorem xw {g:Ge G} {ln cj:Nat->Nat} {v:TV G} {k:Option R} {r:R} (h:Cr ln cj v k=some r):v.av g ln=v.av g cj/\k=some r:=by
 cases v<;>simp only [Cr] at h<;>try cases h
 case int=>exact ⟨rfl,rfl⟩
 case po=>exact ⟨rfl,rfl⟩
 case own a=>
  split at h
  case isFalse=>cases h
  rename_i e;exact ⟨by show AV.own a (ln a) 0 (ln a)=AV.own a (cj a) 0 (cj a);rw [e],h⟩
 case bZ l=>
  split at h
  case isFalse=>cases h
  rename_i e;exact ⟨by show AV.bZ (TV.aS g ln l)=AV.bZ (TV.aS g cj l);rw [z0 e],h⟩
 case pe a i o=>
  split at h
  case isFalse=>cases h
  rename_i e;exact ⟨by show AV.aA a (ln a) i.toNat o=AV.aA a (cj a) i.toNat o;rw [e],h⟩
def Wb (X:Cx G) (q:Rd G) (s':DS G) (c:TV G->Option R):Option R:=match q.op with
 | .load n ag x=>Cr q.s.ln s'.ln (q.s.rx X.gl x) (Cg X.g s'.H n ag (q.s.rx X.gl x) c)
 | .jb sz x i=>Cr q.s.ln s'.ln (q.s.rx X.gl x) (Cr q.s.ln s'.ln (q.s.rx X.gl i) (Gm X.g s'.H sz (q.s.rx X.gl x) (q.s.rx X.gl i) c))
 | _=>none
theorem A5 {X:Cx G} (hg:X.g.Ok) {q:Rd G} {s':DS G} {c:TV G->Option R} {r:R} (h:Wb X q s' c=some r):∃ w:TV G,en (gq X.gl (q.s.tm X.g)) (s'.Hv X.g) q.op=some (w.av X.g s'.ln)/\c w=some r:=by
 have rx:=DS.mQ X.g X.gl q.s;unfold Wb at h;split at h
 ·rename_i n ag x e;obtain ⟨e1,h⟩:=xw (g:=X.g) h;obtain ⟨w,h1,h2⟩:=wT hg h;exact ⟨w,by rw [e];simp only [en,rx];rw [e1];exact h1,h2⟩
 ·rename_i sz x i e;obtain ⟨e1,h⟩:=xw (g:=X.g) h;obtain ⟨e2,h⟩:=xw (g:=X.g) h;obtain ⟨w,h1,h2⟩:=CN hg h;exact ⟨w,by rw [e];simp only [en,rx];rw [e1,e2];exact h1,h2⟩
 ·cases h
def TC (X:Cx G) (q:Rd G):Bool:=match q.op with
 | .load _ _ x=>(match q.s.rx X.gl x with | .bZ _=>true | _=>false)
 | _=>false
theorem Hg {X:Cx G} {q:Rd G} (h:TC X q=true) (A B:List Obj):en (gq X.gl (q.s.tm X.g)) A q.op=en (gq X.gl (q.s.tm X.g)) B q.op:=by
 have rx:=DS.mQ X.g X.gl q.s;unfold TC at h;split at h
 case h_2=>cases h
 rename_i n ag x e;split at h
 case h_2=>cases h
 rename_i l hl;rw [e];simp only [en,rx,hl,TV.av];rfl
def JU (X:Cx G) (q:Rd G) (sp sq:DS G) (k:Option R):Option R:=
 if TC X q then Wb X q q.s fun _=>k else
 Wb X q q.s fun v=>Wb X q sp fun w=>eqG q.s.ln sp.ln v w (Wb X q sq fun w2=>eqG q.s.ln sq.ln v w2 k)
theorem Qf {X:Cx G} (hg:X.g.Ok) {q:Rd G} {sp sq:DS G} {k:Option R} {r:R} (h:JU X q sp sq k=some r):
 (∃ v,AV.same v v=true/\en (gq X.gl (q.s.tm X.g)) (q.s.Hv X.g) q.op=some v/\en (gq X.gl (q.s.tm X.g)) (sp.Hv X.g) q.op=some v/\en (gq X.gl (q.s.tm X.g)) (sq.Hv X.g) q.op=some v)/\k=some r:=by
 unfold JU at h;split at h
 ·rename_i hp;obtain ⟨v,h1,h⟩:=A5 hg h;exact ⟨⟨_,AV.z3 _,h1,by rw [Hg hp _ (q.s.Hv X.g)];exact h1,by rw [Hg hp _ (q.s.Hv X.g)];exact h1⟩,h⟩
 obtain ⟨v,h1,h⟩:=A5 hg h;obtain ⟨w,h2,h⟩:=A5 hg h;obtain ⟨⟨e1,es⟩,h⟩:=Lp (g:=X.g) h;obtain ⟨w2,h3,h⟩:=A5 hg h;obtain ⟨⟨e2,_⟩,h⟩:=Lp (g:=X.g) h;exact ⟨⟨_,es,h1,by rw [h2,e1],by rw [h3,e2]⟩,h⟩
def Cs (X:Cx G) (bf:List Nat) (j:Nat) (sp sq:DS G):List (Rd G)->Option R->Option R
 | [],k=>k
 | q::rs,k=>if bit bf j q.i then Cs X bf j sp sq rs k else JU X q sp sq (Cs X bf j sp sq rs k)
def Ct (X:Cx G) (bf:List Nat) (q:Rd G):List (Nat×DS G×DS G)->Option R->Option R
 | [],k=>k
 | (j,sp,sq)::hs,k=>if bit bf q.i j then Ct X bf q hs k else JU X q sp sq (Ct X bf q hs k)
def dX (X:Cx G) (rec:Rec G) (bf:List Nat):List bH->Nat->An->List (Rd G)->List (Nat×DS G×DS G)->DS G->(DS G->Option R)->Option R
 | [],_,_,_,_,s,k=>k s
 | o::os,i,a,rs,hs,s,k=>match o.guard with
  | some _=>none
  | none=>(match o.op.kind with
   | .pure=>vR X rec false (a.op i) o.dst o.op s fun s'=>dX X rec bf os (i+1) a rs hs s' k
   | .read=>vR X rec false (a.op i) o.dst o.op s fun s'=>Ct X bf ⟨i,o.op,s⟩ hs (dX X rec bf os (i+1) a (⟨i,o.op,s⟩::rs) hs s' k)
   | _=>vR X rec false (a.op i) o.dst o.op s fun s'=>Cs X bf i s s' rs (dX X rec bf os (i+1) a rs ((i,s,s')::hs) s' k))
def RdA (X:Cx G) (q:Rd G) (p:Nat×(List Obj->Option AV)×AV):Prop:=p.1=q.i/\(∀ A,p.2.1 A=en (gq X.gl (q.s.tm X.g)) A q.op)/\p.2.1 (q.s.Hv X.g)=some p.2.2
def HsA (X:Cx G) (hs:List (Nat×DS G×DS G)):List (Nat×List Obj×List Obj):=hs.map fun h=>(h.1,h.2.1.Hv X.g,h.2.2.Hv X.g)
inductive WZ (X:Cx G):List (Rd G)->List (Nat×(List Obj->Option AV)×AV)->Prop
 | nil:WZ X [] []
 | cons {q:Rd G} {p:Nat×(List Obj->Option AV)×AV} {rs ps} (h:RdA X q p) (t:WZ X rs ps):WZ X (q::rs) (p::ps)
theorem Hh {X:Cx G} (hg:X.g.Ok) {q:Rd G} {p:Nat×(List Obj->Option AV)×AV} (hq:RdA X q p) {sp sq:DS G} {k:Option R} {r:R} (h:JU X q sp sq k=some r):
 (jz p.2.1 p.2.2 (sp.Hv X.g)&&jz p.2.1 p.2.2 (sq.Hv X.g))=true/\k=some r:=by
 obtain ⟨⟨v,hs,h1,h2,h3⟩,hk⟩:=Qf hg h;obtain ⟨_,e,ev⟩:=hq;rw [e,h1] at ev;injection ev with ev
 refine ⟨?_,hk⟩;unfold jz;rw [e,e,h2,h3,<-ev];simp only [hs,zbO]
theorem rN {X:Cx G} (hg:X.g.Ok) {bf:List Nat} {j:Nat} {sp sq:DS G}:∀ {rs:List (Rd G)} {ps:List (Nat×(List Obj->Option AV)×AV)} {k:Option R} {r:R},WZ X rs ps->Cs X bf j sp sq rs k=some r->
 (ps.all fun p=>bit bf j p.1||(jz p.2.1 p.2.2 (sp.Hv X.g)&&jz p.2.1 p.2.2 (sq.Hv X.g)))=true/\k=some r
 | _,_,k,r,.nil,h=>⟨rfl,h⟩
 | q::rs,p::ps,k,r,.cons hq ht,h=>by
  rw [Cs] at h;rw [List.all_cons];split at h
  ·rename_i hb;obtain ⟨h1,h2⟩:=rN hg ht h;rw [<-hq.1] at hb;rw [hb,h1];exact ⟨rfl,h2⟩
  ·obtain ⟨h0,h⟩:=Hh hg hq h;obtain ⟨h1,h2⟩:=rN hg ht h;rw [h0,h1,zbX];exact ⟨rfl,h2⟩
theorem xx {X:Cx G} (hg:X.g.Ok) {bf:List Nat} {q:Rd G} {p:Nat×(List Obj->Option AV)×AV} (hq:RdA X q p):∀ {hs:List (Nat×DS G×DS G)} {k:Option R} {r:R},Ct X bf q hs k=some r->
 ((HsA X hs).all fun h=>bit bf p.1 h.1||(jz p.2.1 p.2.2 h.2.1&&jz p.2.1 p.2.2 h.2.2))=true/\k=some r
 | [],k,r,h=>⟨rfl,h⟩
 | (j,sp,sq)::hs,k,r,h=>by
  rw [Ct] at h;show ((bit bf p.1 j||(jz p.2.1 p.2.2 (sp.Hv X.g)&&jz p.2.1 p.2.2 (sq.Hv X.g)))&&(HsA X hs).all _)=true/\_;split at h
  ·rename_i hb;obtain ⟨h1,h2⟩:=xx hg hq h;rw [<-hq.1] at hb;rw [hb,h1];exact ⟨rfl,h2⟩
  ·obtain ⟨h0,h⟩:=Hh hg hq h;obtain ⟨h1,h2⟩:=xx hg hq h;rw [h0,h1,zbX];exact ⟨rfl,h2⟩
theorem Qg {Gl:Nat->List AV} {hp:Nat->Bool} {cI:CI} {cH:CH} {d:Option Nat} {op:RO} {t t':T} {H H':List Obj} (h:bg Gl hp cI cH [⟨d,none,op⟩] t H=some (t',H')):
 ∃ v,lA Gl hp cI cH ⟨d,none,op⟩ t H=some (v,H')/\t'=cZ t d v:=by
 rw [bg] at h;simp only [dn] at h;split at h
 case h_2=>cases h
 rename_i v H1 he;rw [eo,bg] at h;injection h with h
 injection h with h1 h2
 subst h1;subst h2;exact ⟨v,by unfold lA;simp only [dn];exact he,rfl⟩
theorem MU {Gl:Nat->List AV} {hp:Nat->Bool} {a b:CI} {c d:CH} (h1:a.le b) (h2:c.le d) {o:bH} {t:T} {H:List Obj} {r} (h:lA Gl hp a c o t H=some r):lA Gl hp b d o t H=some r:=by
 unfold lA at h ⊢;split at h
 ·rename_i hw;try simp only [hw]
  exact gf h1 h2 h
 ·rename_i hw;try simp only [hw]
  exact h
 ·cases h
def RX1 (E:Env) (hp:Nat->Bool) (bf:List Nat) (os:List bH) (i:Nat) (rs:List (Nat×(List Obj->Option AV)×AV)) (hs:List (Nat×List Obj×List Obj)) (t:T) (H:List Obj) (Q:T->List Obj->Prop):Prop:=
 ∃ n t' H',g9 E.aJ hp (j5 E.fns (ak E hp n)) (kh E.fns (ak E hp n)) bf os i rs hs t H=some (t',H')/\Q t' H'
theorem rO {E:Env} {hp:Nat->Bool} {bf:List Nat} {d:Option Nat} {op:RO} {os:List bH} {i:Nat} {rs rs':List (Nat×(List Obj->Option AV)×AV)} {hs hs':List (Nat×List Obj×List Obj)} {t:T} {H H':List Obj} {v:AV} {n:Nat} {Q:T->List Obj->Prop}
 (ha:lA E.aJ hp (j5 E.fns (ak E hp n)) (kh E.fns (ak E hp n)) ⟨d,none,op⟩ t H=some (v,H'))
 (hc:∀ K:Option (T×List Obj)->Option (T×List Obj),(match op.kind with
  | .pure=>K (some (t,H))
  | .read=>if (hs.all fun h=>bit bf i h.1||(jz (H7 E.aJ ⟨d,none,op⟩ t) v h.2.1&&jz (H7 E.aJ ⟨d,none,op⟩ t) v h.2.2))=true then K (some (t,H)) else none
  | _=>if (rs.all fun r=>bit bf i r.1||(jz r.2.1 r.2.2 H&&jz r.2.1 r.2.2 H'))=true then K (some (t,H)) else none)=K (some (t,H)))
 (hr:rs'=match op.kind with | .read=>(i,H7 E.aJ ⟨d,none,op⟩ t,v)::rs | _=>rs)
 (hh:hs'=match op.kind with | .pure=>hs | .read=>hs | _=>(i,H,H')::hs)
 (h:RX1 E hp bf os (i+1) rs' hs' (cZ t d v) H' Q):RX1 E hp bf (⟨d,none,op⟩::os) i rs hs t H Q:=by
 obtain ⟨m,t1,H1,h1,hq⟩:=h;refine ⟨max n m,t1,H1,?_,hq⟩;have l1:(j5 E.fns (ak E hp n)).le (j5 E.fns (ak E hp (max n m))):=ep E.fns (bM (zbp n m));have l2:(kh E.fns (ak E hp n)).le (kh E.fns (ak E hp (max n m))):=fT E.fns (bM (zbp n m));have m1:(j5 E.fns (ak E hp m)).le (j5 E.fns (ak E hp (max n m))):=ep E.fns (bM (zbd n m));have m2:(kh E.fns (ak E hp m)).le (kh E.fns (ak E hp (max n m))):=fT E.fns (bM (zbd n m));rw [g9,MU l1 l2 ha];simp only [eo];have h2:=nV m1 m2 bf os h1
 cases hk:op.kind with
 | pure=>rw [hk] at hr hh;dsimp only at hr hh ⊢;subst hr;subst hh;exact h2
 | read=>
  rw [hk] at hr hh;dsimp only at hr hh ⊢;subst hr;subst hh;split
  ·exact h2
  ·rename_i hn;have:=hc (fun _=>some (t,H));rw [hk] at this;dsimp only at this;rw [if_neg hn] at this;cases this
 | write=>
  rw [hk] at hr hh;dsimp only at hr hh ⊢;subst hr;subst hh;split
  ·exact h2
  ·rename_i hn;have:=hc (fun _=>some (t,H));rw [hk] at this;dsimp only at this;rw [if_neg hn] at this;cases this
 | call=>
  rw [hk] at hr hh;dsimp only at hr hh ⊢;subst hr;subst hh;split
  ·exact h2
  ·rename_i hn;have:=hc (fun _=>some (t,H));rw [hk] at this;dsimp only at this;rw [if_neg hn] at this;cases this
theorem Cm {X:Cx G} {E:Env} (hX:X.Ok E) {rec:Rec G} (hr:nC E X.hp X.g rec) {bf:List Nat} {r:R} {Q:T->List Obj->Prop}:∀ (os:List bH) {i:Nat} {a:An} {rs:List (Rd G)} {ps:List (Nat×(List Obj->Option AV)×AV)} {hs:List (Nat×DS G×DS G)} {s:DS G} {k:DS G->Option R},
 WZ X rs ps->dX X rec bf os i a rs hs s k=some r->(∀ s',s'.FR X.g=s.FR X.g->k s'=some r->Q (s'.tm X.g) (s'.Hv X.g))->RX1 E X.hp bf os i ps (HsA X hs) (s.tm X.g) (s.Hv X.g) Q
 | [],i,a,rs,ps,hs,s,k,_,h,hk=>⟨0,_,_,rfl,hk s rfl h⟩
 | ⟨d,gd,op⟩::os,i,a,rs,ps,hs,s,k,NU,h,hk=>by
  rw [dX] at h
  cases gd with
  | some p=>cases h
  | none=>
   dsimp only at h;have act:∀ {c:DS G->Option R},vR X rec false (a.op i) d op s c=some r->∃ n v,∃ s':DS G,lA E.aJ X.hp (j5 E.fns (ak E X.hp n)) (kh E.fns (ak E X.hp n)) ⟨d,none,op⟩ (s.tm X.g) (s.Hv X.g)=some (v,s'.Hv X.g)/\s'.tm X.g=cZ (s.tm X.g) d v/\s'.FR X.g=s.FR X.g/\c s'=some r:=by
    intro c h;have:=Hi (E:=E) (os:=[]) (Q:=fun t' H'=>∃ s':DS G,s'.tm X.g=t'/\s'.Hv X.g=H'/\s'.FR X.g=s.FR X.g/\c s'=some r) hX hr h (fun s' h1 h2=>Lq.2 ⟨s',rfl,rfl,h1,h2⟩);obtain ⟨n,t',H',h1,s',e1,e2,e3,e4⟩:=this;obtain ⟨v,h2,h3⟩:=Qg h1;exact ⟨n,v,s',by rw [e2];exact h2,by rw [e1,h3],e3,e4⟩
   cases y8:op.kind with
   | pure=>
    rw [y8] at h;dsimp only at h;obtain ⟨n,v,s',h1,h2,h3,h4⟩:=act h;refine rO h1 (fun K=>by rw [y8]) (by rw [y8]) (by rw [y8]) ?_;have:=Cm hX hr os NU h4 (Q:=Q) fun s'' q1 q2=>hk s'' (by rw [q1,h3]) q2
    rw [h2] at this;exact this
   | read=>
    rw [y8] at h;dsimp only at h;obtain ⟨n,v,s',h1,h2,h3,h4⟩:=act h;have hq:RdA X ⟨i,op,s⟩ (i,H7 E.aJ ⟨d,none,op⟩ (s.tm X.g),v):=by
     refine ⟨rfl,fun A=>?_,?_⟩
     ·show H7 E.aJ ⟨d,none,op⟩ (s.tm X.g) A=_;unfold H7;simp only [dn];rw [hX.gl]
     ·show H7 E.aJ ⟨d,none,op⟩ (s.tm X.g) (s.Hv X.g)=some v;unfold lA at h1;unfold H7;simp only [dn] at h1 ⊢;unfold bV at h1;rw [y8] at h1;dsimp only at h1;split at h1
      ·rename_i u hu;injection h1 with h1;injection h1 with h1 _;subst h1;exact hu
      ·cases h1
    obtain ⟨hall,h4⟩:=xx hX.g hq h4;refine rO h1 (fun K=>by rw [y8];dsimp only;rw [if_pos hall]) (by rw [y8]) (by rw [y8]) ?_;have:=Cm hX hr os (.cons hq NU) h4 (Q:=Q) fun s'' q1 q2=>hk s'' (by rw [q1,h3]) q2
    rw [h2] at this;exact this
   | write=>
    rw [y8] at h;dsimp only at h;obtain ⟨n,v,s',h1,h2,h3,h4⟩:=act h;obtain ⟨hall,h4⟩:=rN hX.g NU h4;refine rO h1 (fun K=>by rw [y8];dsimp only;rw [if_pos hall]) (by rw [y8]) (by rw [y8]) ?_;have:=Cm hX hr os NU h4 (Q:=Q) fun s'' q1 q2=>hk s'' (by rw [q1,h3]) q2
    rw [h2] at this;exact this
   | call=>
    rw [y8] at h;dsimp only at h;obtain ⟨n,v,s',h1,h2,h3,h4⟩:=act h;obtain ⟨hall,h4⟩:=rN hX.g NU h4;refine rO h1 (fun K=>by rw [y8];dsimp only;rw [if_pos hall]) (by rw [y8]) (by rw [y8]) ?_;have:=Cm hX hr os NU h4 (Q:=Q) fun s'' q1 q2=>hk s'' (by rw [q1,h3]) q2
    rw [h2] at this;exact this
theorem ME {E:Env} {hp:Nat->Bool} {os:List bH} {bf:List Nat} {b:Nat} {Q:Ex->ST->Prop} {s:ST} (h:RX1 E hp bf os 0 [] [] s.tmps s.H (fun t H=>Q .normal ⟨t,H⟩)):WP E hp (.jG os bf) b Q s:=by
 obtain ⟨n,t',H',h1,hq⟩:=h;exact ⟨n+1,_,_,by rw [ak,h1],hq⟩
end
end oZ
end
