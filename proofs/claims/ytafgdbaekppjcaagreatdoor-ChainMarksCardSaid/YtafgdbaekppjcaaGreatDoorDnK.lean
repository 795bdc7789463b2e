/- Parts of my machine and its laws, joined: DnK DnX. No condition. -/
import Derived.Test.YtafgdbaekppjcaaGreatDoorDnJ
set_option linter.unusedSectionVars false
set_option linter.unusedVariables false
set_option linter.unusedSimpArgs false
section
namespace nT
open Go hiding Obj mark
open Go.Pl Go.Am Go.Am.As
set_option linter.unusedVariables false
section
variable {G:Nat->Type} {R:Type}
def jK:TV G->Option (List Nat)
 | .own i=>some [i]
 | .po i _=>some [i]
 | .pe i _ _=>some [i]
 | .pa i _ _ _=>some [i]
 | .sa ..=>none
 | .raw v=>some (refs v)
 | _=>some []
theorem jm {g:Ge G} {ln:Nat->Nat} {v:TV G} {l:List Nat} (h:jK v=some l):refs (v.av g ln)=l:=by
 cases v with
 | sa=>cases h
 | fS t o=>cases o<;>exact Option.some.inj h
 | dB t o=>cases o<;>exact Option.some.inj h
 | _=>exact Option.some.inj h
def uz:List (TV G)->Option (List Nat)
 | []=>some []
 | x::xs=>(match jK x with
  | some a=>(match uz xs with | some b=>some (a++b) | none=>none)
  | none=>none)
theorem rV {g:Ge G} {ln:Nat->Nat}:∀ {l:List (TV G)} {m:List Nat},uz l=some m->(TV.aR g ln l).flatMap refs=m
 | [],m,h=>Option.some.inj h
 | x::l,m,h=>by
  rw [uz] at h;split at h
  case h_2=>cases h
  rename_i a ha;split at h
  case h_2=>cases h
  rename_i b hb;injection h with h;subst h
  rw [TV.aR,List.flatMap_cons,jm ha,rV hb]
def Ya (gl:Nat->List AV) (s:DS G) (pl:Nat):RO->Option FP
 | .load _ _ a=>(match jK (s.rx gl a) with | some l=>some { r:=l } | none=>none)
 | .iu _ x _=>(match jK (s.rx gl x) with | some l=>some { r:=l } | none=>none)
 | .slc _ x _ _=>(match jK (s.rx gl x) with | some l=>some { r:=l } | none=>none)
 | .box _=>some { w:=[pl] }
 | .alloc _=>some { w:=[pl] }
 | .sY ..=>some { w:=[pl] }
 | .lQ ..=>some { w:=[pl] }
 | .D2 ..=>some { w:=[pl] }
 | .store _ a _=>(match jK (s.rx gl a) with | some l=>some { w:=l } | none=>none)
 | .app _ _ x y=>(match jK (s.rx gl y) with
  | some l=>(match jK (s.rx gl x) with | some m=>some { r:=l,w:=pl::m } | none=>none)
  | none=>none)
 | .kO _ _ x y=>(match jK (s.rx gl y) with
  | some l=>(match jK (s.rx gl x) with | some m=>some { r:=l,w:=pl::m } | none=>none)
  | none=>none)
 | .qH _ args=>(match uz (args.map (s.rx gl)) with | some l=>some { r:=l,w:=[pl] } | none=>none)
 | .call _ args=>(match uz (args.map (s.rx gl)) with | some l=>some { r:=l } | none=>none)
 | .DZ _=>some {}
 | .pick ..=>some {}
 | .build ..=>some {}
 | .bin ..=>some {}
 | .un ..=>some {}
 | .Aa ..=>some {}
 | .D0 ..=>some {}
 | .D1 ..=>some {}
 | .oh _=>some {}
 | .conv ..=>some {}
 | .Ol ..=>some {}
 | .sX ..=>some {}
 | .kN ..=>some {}
 | .lW ..=>some {}
 | .nN ..=>some {}
 | .nO ..=>some {}
 | .Lx ..=>some {}
 | .len ..=>some {}
 | .mn _=>some {}
 | .mx _=>some {}
 | .ext ..=>some {}
 | .FA _=>some {}
 | .ia _ _ _ m _=>(match jK (s.rx gl m) with | some l=>some { r:=l } | none=>none)
 | .iP m=>(match jK (s.rx gl m) with | some l=>some { r:=l } | none=>none)
 | .hY _ m _ _=>(match jK (s.rx gl m) with | some l=>some { w:=l } | none=>none)
 | .FB=>some { w:=[pl] }
 | .fJ f args=>if (s.rx gl f).free&&TV.lD (args.map (s.rx gl)) then some {} else none
 | _=>none
theorem Sl {g:Ge G} (hg:g.Ok) {gl:Nat->List AV} {s:DS G} {pl:Nat} {op:RO} {fp:FP} (h:Ya gl s pl op=some fp):lF (fI gl (s.tm g)) pl op=fp:=by
 have rx:=DS.lI g gl s
 cases op<;>first | exact Option.some.inj h | exact Gi h | skip
 all_goals
  unfold Ya at h;dsimp only at h
 case fJ f args=>
  split at h
  case isFalse=>cases h
  rename_i hf;rw [Bool.and_eq_true] at hf;injection h with h;subst h
  have h1:=mG hg s.ln _ hf.1;have h2:=er hg s.ln _ hf.2;simp only [lF,rx,DS.gf,h1,h2];rfl
 case qH f args=>
  split at h
  case h_2=>cases h
  rename_i l hl;injection h with h;subst h
  simp only [lF,DS.gf,rV hl]
 case call f args=>
  split at h
  case h_2=>cases h
  rename_i l hl;injection h with h;subst h
  simp only [lF,DS.gf,rV hl]
 case app=>
  split at h
  case h_2=>cases h
  rename_i l hl;split at h
  case h_2=>cases h
  rename_i m hm;injection h with h;subst h
  simp only [lF,rx,jm hl,jm hm]
 case kO=>
  split at h
  case h_2=>cases h
  rename_i l hl;split at h
  case h_2=>cases h
  rename_i m hm;injection h with h;subst h
  simp only [lF,rx,jm hl,jm hm]
 all_goals
  split at h
  case h_2=>cases h
  rename_i l hl;injection h with h;subst h
  simp only [lF,rx,jm hl]
def Ik (H:List (TO G)):TV G->Bool
 | .own id=>(match H[id]? with
  | some (.bg ..)=>true
  | some (.cN _ _ es)=>jb es
  | _=>false)
 | _=>false
def Il (H:List (TO G)) (v:TV G):Bool:=v.free||Ik H v
def oF (H:List (TO G)):List (TV G)->Bool
 | []=>true
 | x::xs=>Il H x&&oF H xs
theorem KR {g:Ge G} (hg:g.Ok) {s:DS G} {v:TV G} (h:Ik s.H v=true):(ki (s.Hv g) (v.av g s.ln)).isSome=true:=by
 unfold Ik at h;split at h
 case h_2=>cases h
 rename_i id;split at h
 ·rename_i fl t l hid;have hp:z9 s.H 6 (.own id)=some (.bg t l):=by
   show (if (TV.own id:TV G).free then some _ else match s.H[id]? with | _=>_)=_;rw [show (TV.own id:TV G).free=false from rfl];simp only [Bool.false_eq_true,if_false,hid]
  have hk:=kS hg 6 hp;unfold ki;rw [if_neg (by simp [TV.av,AV.bA])];show (match (s.Hv g)[id]? with | some (.live _ _ es)=>_ | _=>none).isSome=true;rw [bp hid];simp only [TO.av,List.drop_zero,kn hid];rw [List.take_of_length_le (by simp),if_pos (fM (cR hg t).bA l)];have hk':pk 6 (s.Hv g) (.own id l.length 0 l.length)=some (.ro (l.map (enc g t))):=by
   rw [show (TV.own id:TV G).av g s.ln= .own id (s.ln id) 0 (s.ln id) from rfl,kn hid] at hk;exact hk
  rw [hk'];rfl
 ·rename_i fl sz es hid;have e:s.ln id=es.length:=by unfold DS.ln jD;rw [hid];rfl
  have hp:z9 s.H 6 (.own id)=some (.oY es):=by
   show (if (TV.own id:TV G).free then some _ else match s.H[id]? with | _=>_)=_;rw [show (TV.own id:TV G).free=false from rfl];simp only [Bool.false_eq_true,if_false,hid,h,if_true]
  have hk:=kS hg 6 hp;unfold ki;rw [if_neg (by simp [TV.av,AV.bA])];show (match (s.Hv g)[id]? with | some (.live _ _ es)=>_ | _=>none).isSome=true;rw [bp hid];have hle:(TV.cU g s.ln es).length=es.length:=by rw [bl,List.length_map]
  simp only [TO.av,List.drop_zero,e];rw [List.take_of_length_le (by rw [hle];exact Nat.le_refl _),if_pos (fy hg s.ln es h)];rw [show (TV.own id:TV G).av g s.ln= .own id (s.ln id) 0 (s.ln id) from rfl,e] at hk;rw [hk];rfl
 ·cases h
theorem BD {g:Ge G} (hg:g.Ok) {s:DS G} {v:TV G} (h:Il s.H v=true):(ki (s.Hv g) (v.av g s.ln)).isSome=true:=by
 unfold Il at h;rcases (Bool.or_eq_true _ _).mp h with h | h
 ·unfold ki;rw [if_pos (mG hg _ v h)];rfl
 ·exact KR hg h
theorem x6 {g:Ge G} (hg:g.Ok) {s:DS G}:∀ {l:List (TV G)},oF s.H l=true->kV (s.Hv g) (TV.aR g s.ln l)=true
 | [],_=>rfl
 | x::l,h=>by
  rw [oF,Bool.and_eq_true] at h;have h1:=BD hg h.1;have h2:=x6 hg h.2;unfold kV at h2 ⊢;rw [TV.aR,jJ]
  cases ha:ki (s.Hv g) (x.av g s.ln) with
  | none=>rw [ha] at h1;cases h1
  | some a=>cases hb:jJ (s.Hv g) (TV.aR g s.ln l) with
   | none=>rw [hb] at h2;cases h2
   | some b=>rfl
def Mq (w:List Nat) (v:TV G) (s:DS G) (c:TV G->DS G->Option R):Option R:=match v with
 | .own id=>if kP id w then (match s.H[id]? with
  | some (.bg fl t l)=>if fl.free then c (.bg t l) (s.dy id .dead) else none
  | some (.cN fl sz es)=>if fl.free&&(jb es&&iB es) then c (.oY es) (s.dy id .dead) else none
  | _=>none) else none
 | _=>none
theorem BE {x:Nat}:∀ {l:List Nat},kP x l=true->x∈l
 | y::l,h=>by
  rw [kP,Bool.or_eq_true] at h;rcases h with h | h
  ·rw [Nat.eq_of_beq_eq_true h];exact List.mem_cons_self ..
  ·exact List.mem_cons_of_mem _ (BE h)
theorem zK {g:Ge G} (hg:g.Ok) {w:List Nat} {v:TV G} {s:DS G} {c:TV G->DS G->Option R} {r:R} (h:Mq w v s c=some r):gT g s (eA w (some (v.av g s.ln,s.Hv g))) c r:=by
 unfold Mq at h;split at h
 case h_2=>cases h
 rename_i id;split at h
 case isFalse=>cases h
 rename_i hm;have hw:((refs ((TV.own id:TV G).av g s.ln)).all fun i=>w.contains i)=true:=by
  simp [TV.av,refs,BE hm]
 have fin:∀ {o:TO G} {v':TV G} {fl:Fl} {sz:Nat} {es:List (List AV)},s.H[id]?=some o->o.av g s.ln (s.FR g)= .live fl sz es->o.len=es.length->AV.bM 0 es=true->fl.free=true->v'.av g (s.dy id .dead).ln= .ro es->c v' (s.dy id .dead)=some r->gT g s (eA w (some ((TV.own id:TV G).av g s.ln,s.Hv g))) c r:=by
  intro o v' fl sz es hid h1 h2 h3 h4 h5 h6;obtain ⟨k1,k2,k3,k4⟩:=pR (g:=g) (o':= .dead) hid;have e:s.ln id=es.length:=by unfold DS.ln jD;rw [hid];exact h2
  have hH:(s.Hv g)[id]?=some (.live fl sz es):=by rw [bp hid,h1]
  refine ⟨v',_,?_,k2,k3,h6⟩;unfold eA;dsimp only;rw [if_pos hw];have hf:jB 0 ⟨[(TV.own id:TV G).av g s.ln],s.Hv g⟩=some ⟨[.ro es],(s.Hv g).set id .dead⟩:=by
   unfold jB;rw [show (TV.own id:TV G).av g s.ln= .own id (s.ln id) 0 (s.ln id) from rfl,e];show (match aH (s.Hv g) id with | some (_,es')=>_ | none=>none)=_;simp only [aH,hH,List.drop_zero,cw];rw [List.take_of_length_le (Nat.le_refl _),if_pos ⟨trivial,h3,h4⟩];rfl
  rw [hf];dsimp only;rw [k4,h5];rfl
 split at h
 ·rename_i fl t l hid;split at h
  case isFalse=>cases h
  rename_i hf;exact fin hid rfl (by simp [TO.len]) (fM (cR hg t).bA l) hf rfl h
 ·rename_i fl sz es hid;split at h
  case isFalse=>cases h
  rename_i hf;simp only [Bool.and_eq_true] at hf;refine fin hid rfl (by simp [TO.len,bl]) (fy hg s.ln es hf.2.1) hf.1 ?_ h;show AV.ro _=AV.ro _;rw [fD es hf.2.2]
 ·cases h
structure dz (G:Nat->Type) where
 f:Nat
 args:List Sh
 ts:List Ty
 t:Ty
 m:DL G ts->Option (List (t.D G))
def dz.vs (g:Ge G) (c:dz G) (x:DL G c.ts):List (TV G):=ot g c.args (aL g c.ts x)
def dz.Ok (E:Env) (hp:Nat->Bool) (g:Ge G) (c:dz G):Prop:=∀ x l,c.m x=some l->l≠[]->∃ n,jw E.fns (aq E hp n) c.f (.ax 0 0 0 0::TV.aR g (fun _=>0) (c.vs g x))=some (.bk [.ax 0 0 (c.t.n g) 0,.ro (l.map (enc g c.t))])
def jo (g:Ge G) (f:Nat) (ys:List (TV G)):List (dz G)->Option ((c:dz G)×DL G c.ts)
 | []=>none
 | c::r=>if Nat.beq c.f f then (match AJ g c.args ys with
  | some l=>(match lX g c.ts l with
   | some x=>some ⟨c,x⟩
   | none=>jo g f ys r)
  | none=>jo g f ys r) else jo g f ys r
theorem sC {g:Ge G} (hg:g.Ok) {f:Nat} {ys:List (TV G)} {ln:Nat->Nat}:∀ {C:List (dz G)} {p:(c:dz G)×DL G c.ts},jo g f ys C=some p->p.1∈C/\p.1.f=f/\TV.aR g ln (p.1.vs g p.2)=TV.aR g ln ys
 | [],p,h=>by cases h
 | c::r,p,h=>by
  have tl:jo g f ys r=some p->p.1∈c::r/\p.1.f=f/\TV.aR g ln (p.1.vs g p.2)=TV.aR g ln ys:=fun h=>by
   obtain ⟨h1,h2⟩:=sC hg h;exact ⟨List.mem_cons_of_mem _ h1,h2⟩
  rw [jo] at h;split at h
  case isFalse=>exact tl h
  rename_i hf;split at h
  case h_2=>exact tl h
  rename_i l hl;split at h
  case h_2=>exact tl h
  rename_i x hx;injection h with h;subst h
  exact ⟨List.mem_cons_self ..,Nat.eq_of_beq_eq_true hf,vh hl (by rw [gH hg,jM hg ln _ _ _ hx])⟩
def Pd:Ty->Bool
 | .int _ | .bool | .str=>true
 | _=>false
theorem KS {g:Ge G} {t:Ty} (h:Pd t=true) (l:List (t.D G)):uf (.ro (l.map (enc g t)))=true:=by
 show (l.map (enc g t)).all AV.iX=true;rw [List.all_map,List.all_eq_true];intro x _
 cases t<;>first | rfl | cases h
theorem BF {g:Ge G} (hg:g.Ok) {s:DS G}:∀ {l ys:List (TV G)},oF s.H l=true->od (z9 s.H 6) l=some ys->jJ (s.Hv g) (TV.aR g s.ln l)=some (TV.aR g s.ln ys)
 | [],ys,_,hp=>by injection hp with hp;subst hp;rfl
 | x::l,ys,hl,hp=>by
  rw [oF,Bool.and_eq_true] at hl;rw [od] at hp;split at hp
  case h_2=>cases hp
  rename_i y hy;split at hp
  case h_2=>cases hp
  rename_i m hm;injection hp with hp;subst hp
  have h1:=kS hg 6 hy;have h2:ki (s.Hv g) (x.av g s.ln)=some (y.av g s.ln):=by
   have hs:=BD hg hl.1;unfold ki at hs ⊢;split
   ·rename_i hb;rw [iy hb] at h1;exact h1
   ·rename_i hb;rw [if_neg hb] at hs;split at hs
    ·rename_i e;rw [e] at h1;split at hs
     ·split at hs
      ·rename_i hq;rw [if_pos hq];exact h1
      ·cases hs
     ·cases hs
    ·cases hs
  rw [TV.aR,TV.aR,jJ,h2,BF hg hl.2 hm]
def QM (X:Cx G) (CM:List (dz G)) (rec:Rec G) (pl:Nat) (s:DS G) (op:RO) (k:TV G->DS G->Option R):Option R:=match op with
 | .call f args=>if oF s.H (args.map (s.rx X.gl)) then
  (match od (z9 s.H 6) (args.map (s.rx X.gl)) with
   | some ys=>AK X s f (args.map (s.rx X.gl)) ys k none
   | none=>none) else none
 | .fJ fx args=>(match Mh (s.rx X.gl fx) with
  | some p=>(match od (z9 s.H 6) (args.map (s.rx X.gl)++p.2) with
   | some ys=>AK X s p.1 (args.map (s.rx X.gl)++p.2) ys k none
   | none=>none)
  | none=>none)
 | .qH f args=>if oF s.H (args.map (s.rx X.gl)) then
  (match od (z9 s.H 6) (args.map (s.rx X.gl)) with
   | some ys=>(match jo X.g f ys CM with
   | some p=>if (TV.lD (args.map (s.rx X.gl))||Pd p.1.t)&&gF (p.1.vs X.g p.2) then (p.1.m p.2).bind fun l=>(CN l).bind fun _=>if s.fits pl (.bg .norm p.1.t l) then k (.own pl) (s.dY pl (.bg .norm p.1.t l)) else none else none
   | none=>none)
   | none=>none) else none
 | .kO sz o8 x y=>(match jK (s.rx X.gl x) with
  | some w=>LJ X.g s sz o8 (s.rx X.gl x) (s.rx X.gl y) fun v s'=>Mq (pl::w) v s' k
  | none=>none)
 | .lQ sz z len parts=>LI X.g s pl sz z len (parts.map fun p=>(p.1,s.rx X.gl p.2)) fun v s'=>Mq [pl] v s' k
 | op=>ev X.g X.gl s pl op k
def Pe (H:List (TO G)) (pl:Nat) (op:RO):Bool:= !op.dA||(match H[pl]? with | some .gB=>true | _=>false)
def TP (X:Cx G) (CM:List (dz G)) (rec:Rec G) (b0:Nat) (o:Nat×bD) (s:DS G) (k:DS G->FP->Option R):Option R:=match Ya X.gl s (b0+o.1) o.2.op with
 | some fp=>if Pe s.H (b0+o.1) o.2.op then QM X CM rec (b0+o.1) s o.2.op fun v s'=>k (s'.cP o.2.dst v) fp else none
 | none=>none
def Lp (X:Cx G) (CM:List (dz G)) (rec:Rec G) (b0:Nat):List (Nat×bD)->DS G->(DS G->List FP->Option R)->Option R
 | [],s,k=>k s []
 | o::os,s,k=>(match o.2.guard with
  | none=>TP X CM rec b0 o s fun s' fp=>Lp X CM rec b0 os s' fun s'' fs=>k s'' (fp::fs)
  | some p=>(match y8 (s.get p.1) with
   | some c=>if p.2 then
    cond c (TP X CM rec b0 o (s.rep p.1 (.bool true)) fun s' fp=>Lp X CM rec b0 os s' fun s'' fs=>k s'' (fp::fs)) (Lp X CM rec b0 os ((s.rep p.1 (.bool false)).cP o.2.dst (.raw (.bk []))) fun s'' fs=>k s'' ({}::fs))
    else
     cond c (Lp X CM rec b0 os ((s.rep p.1 (.bool true)).cP o.2.dst (.raw (.bk []))) fun s'' fs=>k s'' ({}::fs)) (TP X CM rec b0 o (s.rep p.1 (.bool false)) fun s' fp=>Lp X CM rec b0 os s' fun s'' fs=>k s'' (fp::fs))
   | none=>none))
theorem Fg {E:Env} {hp:Nat->Bool} {t:T} {H:List Obj} {b0 k n:Nat} {o:bD} {os:List (Nat×bD)} {v:AV} {H1:List Obj} {f:FP} {K:T->List Obj->List FP->Prop} (h:mu E.aI (jw E.fns (aq E hp n)) (b0+k) o t H=some (v,H1,f))
 (hk:WD E hp b0 os (cP t o.dst v) H1 (fun t' H' fs=>K t' H' (f::fs))):WD E hp b0 ((k,o)::os) t H K:=by
 obtain ⟨m,t',H',fs,h1,h2⟩:=hk;refine ⟨max n m,t',H',f::fs,?_,h2⟩;rw [fW,Br (dI E.fns (bK (Nat.le_max_left n m))) h];simp only [dH];rw [qq (dI E.fns (bK (Nat.le_max_right n m))) os h1]
theorem gT.trans {g:Ge G} {s s1:DS G} {m:Option (AV×List Obj)} {c:TV G->DS G->Option R} {r:R} (h1:s1.tm g=s.tm g) (h2:s1.FR g=s.FR g) (h:gT g s1 m c r):gT g s m c r:=by
 obtain ⟨w,s',e1,e2,e3,e4⟩:=h;exact ⟨w,s',e1,by rw [e2,h1],by rw [e3,h2],e4⟩
theorem NN {X:Cx G} {E:Env} (hX:X.Ok E) {CM:List (dz G)} (hM:∀ c∈CM,c.Ok E X.hp X.g) {rec:Rec G} {pl:Nat} {s:DS G} {op:RO} {k:TV G->DS G->Option R} {r:R} (h:QM X CM rec pl s op k=some r):
 ∃ n,gT X.g s (eZ (fI E.aI (s.tm X.g)) (jw E.fns (aq E X.hp n)) pl op (s.Hv X.g)) k r:=by
 have plain:∀ {op:RO},(∀ f a,op≠ .call f a)->(∀ f a,op≠ .qH f a)->(∀ a b c d,op≠ .kO a b c d)->(∀ a b c d,op≠ .lQ a b c d)->ev X.g X.gl s pl op k=some r->∃ n,gT X.g s (eZ (fI E.aI (s.tm X.g)) (jw E.fns (aq E X.hp n)) pl op (s.Hv X.g)) k r:=by
  intro op n1 n2 n3 n4 h;obtain ⟨h1,h2⟩:=Pf hX.g h;rw [hX.gl] at h2;refine ⟨0,?_⟩;have:eZ (fI E.aI (s.tm X.g)) (jw E.fns (aq E X.hp 0)) pl op (s.Hv X.g)=GL (fI E.aI (s.tm X.g)) pl op (s.Hv X.g):=by
   unfold eZ;split
   ·exact (n2 _ _ rfl).elim
   ·exact (n3 _ _ _ _ rfl).elim
   ·exact (n4 _ _ _ _ rfl).elim
   ·exact (n1 _ _ rfl).elim
   ·exact Dk h1
  rw [this];exact h2
 unfold QM at h;split at h
 ·rename_i f args;split at h
  case isFalse=>cases h
  rename_i hl;split at h
  case h_2=>cases h
  rename_i ys hys;obtain ⟨n,v,H',h1,h2⟩:=vi hX (dr:=true) (.inl rfl) hys h (fun h=>by cases h);obtain ⟨w,s',e1,e2,e3,e4,e5⟩:=h2;refine ⟨n,w,s',?_,e3,e4,e5⟩;unfold eZ;dsimp only;have hl':=x6 hX.g hl;rw [hX.gl,<-DS.gf] at hl' h1;rw [if_pos hl'];simp only [bY,RO.kind];rw [show bI (fun _=>false) (jw E.fns (aq E X.hp n)) (fun _ _ _=>none) f (args.map (fI E.aI (s.tm X.g))) (s.Hv X.g)=some (v,H') from h1,e1,e2]
 ·rename_i fx args;split at h
  case h_2=>cases h
  rename_i p hp;split at h
  case h_2=>cases h
  rename_i ys hys;obtain ⟨n,v,H',h1,h2⟩:=vi hX (dr:=true) (.inl rfl) hys h (fun h=>by cases h);obtain ⟨w,s',e1,e2,e3,e4,e5⟩:=h2;refine ⟨n,w,s',?_,e3,e4,e5⟩;have GX:fI E.aI (s.tm X.g) fx= .fn p.1 (TV.aR X.g s.ln p.2):=by
   rw [<-hX.gl,DS.lI,zy hp];rfl
  rw [hX.gl,jN,<-DS.gf] at h1;show bY (fI E.aI (s.tm X.g)) (fun _=>false) (jw E.fns (aq E X.hp n)) (fun _ _ _=>none) pl (.fJ fx args) (s.Hv X.g)=_;simp only [bY,RO.kind,GX];rw [show bI (fun _=>false) (jw E.fns (aq E X.hp n)) (fun _ _ _=>none) p.1 (args.map (fI E.aI (s.tm X.g))++TV.aR X.g s.ln p.2) (s.Hv X.g)=some (v,H') from h1,e1,e2]
 ·rename_i f args;split at h
  case isFalse=>cases h
  rename_i hl;split at h
  case h_2=>cases h
  rename_i ys hys;split at h
  case h_2=>cases h
  rename_i p hp;split at h
  case isFalse=>cases h
  rename_i hi;rw [Bool.and_eq_true] at hi;obtain ⟨hfl,hi⟩:=hi;obtain ⟨l,h1,h2⟩:=bind_some h;obtain ⟨_,h3,h4⟩:=bind_some h2;split at h4
  case isFalse=>cases h4
  rename_i hf;obtain ⟨e1,e2,e3⟩:=sC hX.g (ln:=s.ln) hp;have hne:l≠[]:=by rintro rfl;cases h3
  obtain ⟨n,hn⟩:=hM _ e1 _ _ h1 hne;rw [e2,eu (cj:=s.ln) _ hi,e3] at hn;obtain ⟨k1,k2,k3⟩:=fq (g:=X.g) hf;refine ⟨n,_,_,?_,k1,k2,h4⟩;have hb:(AV.aS 0 (TV.aR X.g s.ln (args.map (s.rx X.gl)))||uf (.ro (l.map (enc X.g p.1.t))))=true:=by
   rcases (Bool.or_eq_true _ _).mp hfl with hf | hf
   ·rw [er hX.g s.ln _ hf];rfl
   ·rw [KS hf l,Bool.or_true]
  have Cs:=BF hX.g hl hys;unfold eZ;dsimp only;unfold mkObj;rw [hX.gl,<-DS.gf] at hb Cs;rw [Cs];dsimp only;rw [hn];show (if _ then ue pl (s.Hv X.g) (p.1.t.n X.g) (.ro (l.map (enc X.g p.1.t))) else none)=_;rw [if_pos hb,k3];show some (AV.own pl (l.map (enc X.g p.1.t)).length 0 (l.map (enc X.g p.1.t)).length,_)=some (AV.own pl (DS.ln _ pl) 0 (DS.ln _ pl),_);rw [iK (jO hf)];simp [TO.len,TO.av]
 ·rename_i sz o8 x y;split at h
  case h_2=>cases h
  rename_i w hw;obtain ⟨v,s',e1,e2,e3,e4⟩:=Fh (pl:=pl) hX.g h;refine ⟨0,?_⟩;have:=zK hX.g e4;unfold eZ;dsimp only;show gT X.g s (eA _ (Am.append (s.Hv X.g) pl sz o8 (fI E.aI (s.tm X.g) x) (fI E.aI (s.tm X.g) y))) k r;rw [DS.lI X.g E.aI s x,DS.lI X.g E.aI s y,<-hX.gl,e1,jm hw];exact this.trans e2 e3
 ·rename_i sz z len parts;obtain ⟨v,s',e1,e2,e3,e4⟩:=Fi (g:=X.g) hX.g h;refine ⟨0,?_⟩;have:=zK hX.g e4;unfold eZ;dsimp only;rw [List.map_map] at e1;have:cW (fI E.aI (s.tm X.g)) (s.Hv X.g) pl (.sY sz z len parts)=some (v.av X.g s'.ln,s'.Hv X.g):=by
   rw [<-hX.gl];simp only [cW,DS.lI X.g X.gl s];exact e1
  rw [this];exact (zK hX.g e4).trans e2 e3
 ·rename_i n1 n2 n3 n4 n5;exact plain (fun f a e=>n1 f a e) (fun f a e=>n3 f a e) (fun a b c d e=>n4 a b c d e) (fun a b c d e=>n5 a b c d e) h
theorem Df {X:Cx G} {E:Env} (hX:X.Ok E) {CM:List (dz G)} (hM:∀ c∈CM,c.Ok E X.hp X.g) {rec:Rec G} {b0:Nat} {r:R} {Q:T->List Obj->List FP->Prop}:∀ (os:List (Nat×bD)) {s:DS G} {k:DS G->List FP->Option R},
 Lp X CM rec b0 os s k=some r->(∀ s' fs,s'.FR X.g=s.FR X.g->k s' fs=some r->Q (s'.tm X.g) (s'.Hv X.g) fs)->WD E X.hp b0 os (s.tm X.g) (s.Hv X.g) Q
 | [],s,k,h,hk=>Sm (hk s [] rfl h)
 | o::os,s,k,h,hk=>by
  obtain ⟨p,d,gd,op⟩:=o;have go:∀ {s1:DS G},s1.tm X.g=s.tm X.g->s1.Hv X.g=s.Hv X.g->s1.FR X.g=s.FR X.g->c6 (s.tm X.g) gd=some true->(TP X CM rec b0 ⟨p,d,gd,op⟩ s1 fun s' fp=>Lp X CM rec b0 os s' fun s'' fs=>k s'' (fp::fs))=some r->WD E X.hp b0 ((p,⟨d,gd,op⟩)::os) (s.tm X.g) (s.Hv X.g) Q:=by
   intro s1 t1 t2 t3 hw h;unfold TP at h;dsimp only at h;split at h
   case h_2=>cases h
   rename_i fp hfp;split at h
   case isFalse=>cases h
   rename_i cZ;obtain ⟨n,w,s',e1,e2,e3,e4⟩:=NN hX hM h;have QN:=Sl hX.g hfp;rw [hX.gl] at QN;have Mr:qO (s1.Hv X.g) (b0+p) op=true:=by
    unfold Pe at cZ;unfold qO;rcases (Bool.or_eq_true _ _).mp cZ with h | h
    ·rw [h];rfl
    ·split at h
     ·rename_i hr;rw [bp hr];exact (Bool.or_eq_true _ _).mpr (.inr rfl)
     ·cases h
   rw [t1] at e1 QN;rw [t2] at e1 Mr;refine Fg (n:=n) (v:=w.av X.g s'.ln) (H1:=s'.Hv X.g) (f:=fp) ?_ ?_
   ·simp only [mu,hw];rw [if_pos Mr,e1];dsimp only;rw [QN]
   ·have:=Df hX hM os (Q:=fun t' H' fs=>Q t' H' (fp::fs)) e4 (fun s'' fs h1 h2=>hk s'' (fp::fs) (by rw [h1,DS.nh,e3,t3]) h2);rw [DS.ni,DS.pY,e2,t1] at this;exact this
  have no:∀ {s1:DS G},s1.tm X.g=s.tm X.g->s1.Hv X.g=s.Hv X.g->s1.FR X.g=s.FR X.g->c6 (s.tm X.g) gd=some false->(Lp X CM rec b0 os (s1.cP d (.raw (.bk []))) fun s'' fs=>k s'' ({}::fs))=some r->WD E X.hp b0 ((p,⟨d,gd,op⟩)::os) (s.tm X.g) (s.Hv X.g) Q:=by
   intro s1 t1 t2 t3 hw h;refine Fg (n:=0) (v:= .bk []) (H1:=s.Hv X.g) (f:={}) ?_ ?_
   ·simp only [mu,hw]
   ·have:=Df hX hM os (Q:=fun t' H' fs=>Q t' H' ({}::fs)) h (fun s'' fs h1 h2=>hk s'' ({}::fs) (by rw [h1,DS.nh,t3]) h2);rw [DS.ni,DS.pY,t1,t2] at this;exact this
  rw [Lp] at h;dsimp only at h
  cases gd with
  | none=>exact go rfl rfl rfl rfl h
  | some q=>
   obtain ⟨t,b⟩:=q;dsimp only at h;have aN:(s.tm X.g).get t=(s.get t).av X.g s.ln:=DS.gG X.g s t;split at h
   case h_2=>cases h
   rename_i c hc;have hv:=rJ hc;rw [hv] at aN;have hw:c6 (s.tm X.g) (some (t,b))=some (c==b):=by
    unfold c6;dsimp only;rw [aN];rfl
   have rp:∀ {b':Bool},c=b'->(s.rep t (.bool b')).tm X.g=s.tm X.g/\(s.rep t (.bool b')).Hv X.g=s.Hv X.g/\(s.rep t (.bool b')).FR X.g=s.FR X.g:=by
    intro b' e;subst e;exact I1 (by rw [hv])
   cases b with
   | true=>
    simp only [if_true] at h
    cases c with
    | true=>obtain ⟨r1,r2,r3⟩:=rp rfl;exact go r1 r2 r3 hw h
    | false=>obtain ⟨r1,r2,r3⟩:=rp rfl;exact no r1 r2 r3 hw h
   | false=>
    simp only [Bool.false_eq_true,if_false] at h
    cases c with
    | true=>obtain ⟨r1,r2,r3⟩:=rp rfl;exact no r1 r2 r3 hw h
    | false=>obtain ⟨r1,r2,r3⟩:=rp rfl;exact go r1 r2 r3 hw h
end
end nT
end
section
namespace nT
open Go hiding Obj mark
open Go.Pl Go.Am Go.Am.As
set_option linter.unusedVariables false
set_option linter.unusedSimpArgs false
section
variable {G:Nat->Type} {R:Type}
def Xc (ln cj:Nat->Nat) (v w:TV G) (k:Option R):Option R:=match v,w with
 | .own a,.own b=>if Nat.beq a b then (if ln a=cj a then k else none) else none
 | .po a o,.po b q=>if Nat.beq a b&&Nat.beq o q then k else none
 | .int kd n,.int kd' m=>if kd=kd' then (if n=m then k else none) else none
 | .bool x,.bool y=>if x=y then k else none
 | .pe a i o,.pe b j q=>if Nat.beq a b&&Nat.beq o q then (if i=j then (if ln a=cj a then k else none) else none) else none
 | _,_=>none
theorem IT {g:Ge G} {ln cj:Nat->Nat} {v w:TV G} {k:Option R} {r:R} (h:Xc ln cj v w k=some r):(v.av g ln=w.av g cj/\AV.same (v.av g ln) (v.av g ln)=true)/\k=some r:=by
 have nb:∀ n:Nat,Nat.beq n n=true:=fun n=>Nat.beq_refl n
 cases v<;>cases w<;>simp only [Xc] at h<;>try cases h
 case int.int kd n kd' m=>
  split at h
  case isFalse=>cases h
  rename_i e1;split at h
  case isFalse=>cases h
  rename_i e2;subst e1;subst e2;exact ⟨⟨rfl,by show (decide _&&decide _)=true;simp⟩,h⟩
 case bool.bool x y=>
  split at h
  case isFalse=>cases h
  rename_i e;subst e;exact ⟨⟨rfl,by show (x==x)=true;simp⟩,h⟩
 case po.po a o b q=>
  split at h
  case isFalse=>cases h
  rename_i e;rw [Bool.and_eq_true] at e;have e1:=Nat.eq_of_beq_eq_true e.1;have e2:=Nat.eq_of_beq_eq_true e.2;subst e1;subst e2;exact ⟨⟨rfl,by show (Nat.beq _ _&&Nat.beq _ _&&Nat.beq _ _&&Nat.beq _ _)=true;simp only [nb,Bool.and_self]⟩,h⟩
 case pe.pe a i o b j q=>
  split at h
  case isFalse=>cases h
  rename_i e;rw [Bool.and_eq_true] at e;have e1:=Nat.eq_of_beq_eq_true e.1;have e2:=Nat.eq_of_beq_eq_true e.2;subst e1;subst e2;split at h
  case isFalse=>cases h
  rename_i e3;subst e3;split at h
  case isFalse=>cases h
  rename_i e4;refine ⟨⟨?_,by show (Nat.beq _ _&&Nat.beq _ _&&Nat.beq _ _&&Nat.beq _ _)=true;simp only [nb,Bool.and_self]⟩,h⟩;show AV.ax a (ln a) i.toNat o=AV.ax a (cj a) i.toNat o;rw [e4]
 case own.own a b=>
  split at h
  case isFalse=>cases h
  rename_i e;have e1:=Nat.eq_of_beq_eq_true e;subst e1;split at h
  case isFalse=>cases h
  rename_i e2;refine ⟨⟨?_,by show (Nat.beq _ _&&Nat.beq _ _&&Nat.beq _ _&&Nat.beq _ _)=true;simp only [nb,Bool.and_self]⟩,h⟩;show AV.own a (ln a) 0 (ln a)=AV.own a (cj a) 0 (cj a);rw [e2]
structure Rd (G:Nat->Type) where
 i:Nat
 op:RO
 s:DS G
def VO:TV G->Bool
 | .int _ _ | .bool _ | .str _ | .bg _ _ | .raw _=>true
 | _=>false
def za:List (TV G)->Bool
 | []=>true
 | x::l=>VO x&&za l
theorem xS {g:Ge G} {ln cj:Nat->Nat}:∀ {l:List (TV G)},za l=true->TV.aR g ln l=TV.aR g cj l
 | [],_=>rfl
 | x::l,h=>by
  rw [za,Bool.and_eq_true] at h;have e:x.av g ln=x.av g cj:=by
   have h1:=h.1
   cases x<;>first | rfl | cases h1
  rw [TV.aR,TV.aR,e,xS h.2]
def AE (ln cj:Nat->Nat) (v:TV G) (k:Option R):Option R:=match v with
 | .po _ _=>k
 | .int _ _=>k
 | .own a=>if ln a=cj a then k else none
 | .pe a _ _=>if ln a=cj a then k else none
 | .bV l=>if za l then k else none
 | _=>none
theorem vb {g:Ge G} {ln cj:Nat->Nat} {v:TV G} {k:Option R} {r:R} (h:AE ln cj v k=some r):v.av g ln=v.av g cj/\k=some r:=by
 cases v<;>simp only [AE] at h<;>try cases h
 case int=>exact ⟨rfl,rfl⟩
 case po=>exact ⟨rfl,rfl⟩
 case own a=>
  split at h
  case isFalse=>cases h
  rename_i e;exact ⟨by show AV.own a (ln a) 0 (ln a)=AV.own a (cj a) 0 (cj a);rw [e],h⟩
 case bV l=>
  split at h
  case isFalse=>cases h
  rename_i e;exact ⟨by show AV.bV (TV.aR g ln l)=AV.bV (TV.aR g cj l);rw [xS e],h⟩
 case pe a i o=>
  split at h
  case isFalse=>cases h
  rename_i e;exact ⟨by show AV.ax a (ln a) i.toNat o=AV.ax a (cj a) i.toNat o;rw [e],h⟩
def Tb (X:Cx G) (q:Rd G) (s':DS G) (c:TV G->Option R):Option R:=match q.op with
 | .load n ag x=>AE q.s.ln s'.ln (q.s.rx X.gl x) (Au X.g s'.H n ag (q.s.rx X.gl x) c)
 | .iu sz x i=>AE q.s.ln s'.ln (q.s.rx X.gl x) (AE q.s.ln s'.ln (q.s.rx X.gl i) (Ec X.g s'.H sz (q.s.rx X.gl x) (q.s.rx X.gl i) c))
 | _=>none
theorem zb {X:Cx G} (hg:X.g.Ok) {q:Rd G} {s':DS G} {c:TV G->Option R} {r:R} (h:Tb X q s' c=some r):∃ w:TV G,dG (fI X.gl (q.s.tm X.g)) (s'.Hv X.g) q.op=some (w.av X.g s'.ln)/\c w=some r:=by
 have rx:=DS.lI X.g X.gl q.s;unfold Tb at h;split at h
 ·rename_i n ag x e;obtain ⟨e1,h⟩:=vb (g:=X.g) h;obtain ⟨w,h1,h2⟩:=uH hg h;exact ⟨w,by rw [e];simp only [dG,rx];rw [e1];exact h1,h2⟩
 ·rename_i sz x i e;obtain ⟨e1,h⟩:=vb (g:=X.g) h;obtain ⟨e2,h⟩:=vb (g:=X.g) h;obtain ⟨w,h1,h2⟩:=AT hg h;exact ⟨w,by rw [e];simp only [dG,rx];rw [e1,e2];exact h1,h2⟩
 ·cases h
def QB (X:Cx G) (q:Rd G):Bool:=match q.op with
 | .load _ _ x=>(match q.s.rx X.gl x with | .bV _=>true | _=>false)
 | _=>false
theorem E1 {X:Cx G} {q:Rd G} (h:QB X q=true) (A B:List Obj):dG (fI X.gl (q.s.tm X.g)) A q.op=dG (fI X.gl (q.s.tm X.g)) B q.op:=by
 have rx:=DS.lI X.g X.gl q.s;unfold QB at h;split at h
 case h_2=>cases h
 rename_i n ag x e;split at h
 case h_2=>cases h
 rename_i l hl;rw [e];simp only [dG,rx,hl,TV.av];rfl
def Ho (X:Cx G) (q:Rd G) (sp sq:DS G) (k:Option R):Option R:=
 if QB X q then Tb X q q.s fun _=>k else
 Tb X q q.s fun v=>Tb X q sp fun w=>Xc q.s.ln sp.ln v w (Tb X q sq fun w2=>Xc q.s.ln sq.ln v w2 k)
theorem Nj {X:Cx G} (hg:X.g.Ok) {q:Rd G} {sp sq:DS G} {k:Option R} {r:R} (h:Ho X q sp sq k=some r):
 (∃ v,AV.same v v=true/\dG (fI X.gl (q.s.tm X.g)) (q.s.Hv X.g) q.op=some v/\dG (fI X.gl (q.s.tm X.g)) (sp.Hv X.g) q.op=some v/\dG (fI X.gl (q.s.tm X.g)) (sq.Hv X.g) q.op=some v)/\k=some r:=by
 unfold Ho at h;split at h
 ·rename_i hp;obtain ⟨v,h1,h⟩:=zb hg h;exact ⟨⟨_,AV.xT _,h1,by rw [E1 hp _ (q.s.Hv X.g)];exact h1,by rw [E1 hp _ (q.s.Hv X.g)];exact h1⟩,h⟩
 obtain ⟨v,h1,h⟩:=zb hg h;obtain ⟨w,h2,h⟩:=zb hg h;obtain ⟨⟨e1,es⟩,h⟩:=IT (g:=X.g) h;obtain ⟨w2,h3,h⟩:=zb hg h;obtain ⟨⟨e2,_⟩,h⟩:=IT (g:=X.g) h;exact ⟨⟨_,es,h1,by rw [h2,e1],by rw [h3,e2]⟩,h⟩
def AF (X:Cx G) (bf:List Nat) (j:Nat) (sp sq:DS G):List (Rd G)->Option R->Option R
 | [],k=>k
 | q::rs,k=>if bit bf j q.i then AF X bf j sp sq rs k else Ho X q sp sq (AF X bf j sp sq rs k)
def AG (X:Cx G) (bf:List Nat) (q:Rd G):List (Nat×DS G×DS G)->Option R->Option R
 | [],k=>k
 | (j,sp,sq)::hs,k=>if bit bf q.i j then AG X bf q hs k else Ho X q sp sq (AG X bf q hs k)
def dX (X:Cx G) (rec:Rec G) (bf:List Nat):List bD->Nat->An->List (Rd G)->List (Nat×DS G×DS G)->DS G->(DS G->Option R)->Option R
 | [],_,_,_,_,s,k=>k s
 | o::os,i,a,rs,hs,s,k=>match o.guard with
  | some _=>none
  | none=>(match o.op.kind with
   | .pure=>tV X rec false (a.op i) o.dst o.op s fun s'=>dX X rec bf os (i+1) a rs hs s' k
   | .read=>tV X rec false (a.op i) o.dst o.op s fun s'=>AG X bf ⟨i,o.op,s⟩ hs (dX X rec bf os (i+1) a (⟨i,o.op,s⟩::rs) hs s' k)
   | _=>tV X rec false (a.op i) o.dst o.op s fun s'=>AF X bf i s s' rs (dX X rec bf os (i+1) a rs ((i,s,s')::hs) s' k))
def Xd (X:Cx G) (q:Rd G) (p:Nat×(List Obj->Option AV)×AV):Prop:=p.1=q.i/\(∀ A,p.2.1 A=dG (fI X.gl (q.s.tm X.g)) A q.op)/\p.2.1 (q.s.Hv X.g)=some p.2.2
def XX (X:Cx G) (hs:List (Nat×DS G×DS G)):List (Nat×List Obj×List Obj):=hs.map fun h=>(h.1,h.2.1.Hv X.g,h.2.2.Hv X.g)
inductive TH (X:Cx G):List (Rd G)->List (Nat×(List Obj->Option AV)×AV)->Prop
 | nil:TH X [] []
 | cons {q:Rd G} {p:Nat×(List Obj->Option AV)×AV} {rs ps} (h:Xd X q p) (t:TH X rs ps):TH X (q::rs) (p::ps)
theorem E2 {X:Cx G} (hg:X.g.Ok) {q:Rd G} {p:Nat×(List Obj->Option AV)×AV} (hq:Xd X q p) {sp sq:DS G} {k:Option R} {r:R} (h:Ho X q sp sq k=some r):
 (iR p.2.1 p.2.2 (sp.Hv X.g)&&iR p.2.1 p.2.2 (sq.Hv X.g))=true/\k=some r:=by
 obtain ⟨⟨v,hs,h1,h2,h3⟩,hk⟩:=Nj hg h;obtain ⟨_,e,ev⟩:=hq;rw [e,h1] at ev;injection ev with ev
 refine ⟨?_,hk⟩;unfold iR;rw [e,e,h2,h3,<-ev];simp only [hs,Bool.and_self]
theorem qm {X:Cx G} (hg:X.g.Ok) {bf:List Nat} {j:Nat} {sp sq:DS G}:∀ {rs:List (Rd G)} {ps:List (Nat×(List Obj->Option AV)×AV)} {k:Option R} {r:R},TH X rs ps->AF X bf j sp sq rs k=some r->
 (ps.all fun p=>bit bf j p.1||(iR p.2.1 p.2.2 (sp.Hv X.g)&&iR p.2.1 p.2.2 (sq.Hv X.g)))=true/\k=some r
 | _,_,k,r,.nil,h=>⟨rfl,h⟩
 | q::rs,p::ps,k,r,.cons hq ht,h=>by
  rw [AF] at h;rw [List.all_cons];split at h
  ·rename_i hb;obtain ⟨h1,h2⟩:=qm hg ht h;rw [<-hq.1] at hb;rw [hb,h1];exact ⟨rfl,h2⟩
  ·obtain ⟨h0,h⟩:=E2 hg hq h;obtain ⟨h1,h2⟩:=qm hg ht h;rw [h0,h1,Bool.or_true];exact ⟨rfl,h2⟩
theorem vc {X:Cx G} (hg:X.g.Ok) {bf:List Nat} {q:Rd G} {p:Nat×(List Obj->Option AV)×AV} (hq:Xd X q p):∀ {hs:List (Nat×DS G×DS G)} {k:Option R} {r:R},AG X bf q hs k=some r->
 ((XX X hs).all fun h=>bit bf p.1 h.1||(iR p.2.1 p.2.2 h.2.1&&iR p.2.1 p.2.2 h.2.2))=true/\k=some r
 | [],k,r,h=>⟨rfl,h⟩
 | (j,sp,sq)::hs,k,r,h=>by
  rw [AG] at h;show ((bit bf p.1 j||(iR p.2.1 p.2.2 (sp.Hv X.g)&&iR p.2.1 p.2.2 (sq.Hv X.g)))&&(XX X hs).all _)=true/\_;split at h
  ·rename_i hb;obtain ⟨h1,h2⟩:=vc hg hq h;rw [<-hq.1] at hb;rw [hb,h1];exact ⟨rfl,h2⟩
  ·obtain ⟨h0,h⟩:=E2 hg hq h;obtain ⟨h1,h2⟩:=vc hg hq h;rw [h0,h1,Bool.or_true];exact ⟨rfl,h2⟩
theorem Nk {Gl:Nat->List AV} {hp:Nat->Bool} {cI:CI} {cH:CH} {d:Option Nat} {op:RO} {t t':T} {H H':List Obj} (h:aZ Gl hp cI cH [⟨d,none,op⟩] t H=some (t',H')):
 ∃ v,kj Gl hp cI cH ⟨d,none,op⟩ t H=some (v,H')/\t'=cP t d v:=by
 rw [aZ] at h;simp only [c6] at h;split at h
 case h_2=>cases h
 rename_i v H1 he;rw [dH,aZ] at h;injection h with h
 injection h with h1 h2
 subst h1;subst h2;exact ⟨v,by unfold kj;simp only [c6];exact he,rfl⟩
theorem Kp {Gl:Nat->List AV} {hp:Nat->Bool} {a b:CI} {c d:CH} (h1:a.le b) (h2:c.le d) {o:bD} {t:T} {H:List Obj} {r} (h:kj Gl hp a c o t H=some r):kj Gl hp b d o t H=some r:=by
 unfold kj at h ⊢;split at h
 ·rename_i hw;try simp only [hw]
  exact fC h1 h2 h
 ·rename_i hw;try simp only [hw]
  exact h
 ·cases h
def Xe (E:Env) (hp:Nat->Bool) (bf:List Nat) (os:List bD) (i:Nat) (rs:List (Nat×(List Obj->Option AV)×AV)) (hs:List (Nat×List Obj×List Obj)) (t:T) (H:List Obj) (Q:T->List Obj->Prop):Prop:=
 ∃ n t' H',gC E.aI hp (jw E.fns (aq E hp n)) (jE E.fns (aq E hp n)) bf os i rs hs t H=some (t',H')/\Q t' H'
theorem qn {E:Env} {hp:Nat->Bool} {bf:List Nat} {d:Option Nat} {op:RO} {os:List bD} {i:Nat} {rs rs':List (Nat×(List Obj->Option AV)×AV)} {hs hs':List (Nat×List Obj×List Obj)} {t:T} {H H':List Obj} {v:AV} {n:Nat} {Q:T->List Obj->Prop}
 (ha:kj E.aI hp (jw E.fns (aq E hp n)) (jE E.fns (aq E hp n)) ⟨d,none,op⟩ t H=some (v,H'))
 (hc:∀ K:Option (T×List Obj)->Option (T×List Obj),(match op.kind with
  | .pure=>K (some (t,H))
  | .read=>if (hs.all fun h=>bit bf i h.1||(iR (FI E.aI ⟨d,none,op⟩ t) v h.2.1&&iR (FI E.aI ⟨d,none,op⟩ t) v h.2.2))=true then K (some (t,H)) else none
  | _=>if (rs.all fun r=>bit bf i r.1||(iR r.2.1 r.2.2 H&&iR r.2.1 r.2.2 H'))=true then K (some (t,H)) else none)=K (some (t,H)))
 (hr:rs'=match op.kind with | .read=>(i,FI E.aI ⟨d,none,op⟩ t,v)::rs | _=>rs)
 (hh:hs'=match op.kind with | .pure=>hs | .read=>hs | _=>(i,H,H')::hs)
 (h:Xe E hp bf os (i+1) rs' hs' (cP t d v) H' Q):Xe E hp bf (⟨d,none,op⟩::os) i rs hs t H Q:=by
 obtain ⟨m,t1,H1,h1,hq⟩:=h;refine ⟨max n m,t1,H1,?_,hq⟩;have l1:(jw E.fns (aq E hp n)).le (jw E.fns (aq E hp (max n m))):=dI E.fns (bK (Nat.le_max_left n m));have l2:(jE E.fns (aq E hp n)).le (jE E.fns (aq E hp (max n m))):=fk E.fns (bK (Nat.le_max_left n m));have m1:(jw E.fns (aq E hp m)).le (jw E.fns (aq E hp (max n m))):=dI E.fns (bK (Nat.le_max_right n m));have m2:(jE E.fns (aq E hp m)).le (jE E.fns (aq E hp (max n m))):=fk E.fns (bK (Nat.le_max_right n m));rw [gC,Kp l1 l2 ha];simp only [dH];have h2:=mP m1 m2 bf os h1
 cases hk:op.kind with
 | pure=>rw [hk] at hr hh;dsimp only at hr hh ⊢;subst hr;subst hh;exact h2
 | read=>
  rw [hk] at hr hh;dsimp only at hr hh ⊢;subst hr;subst hh;split
  ·exact h2
  ·rename_i hn;have:=hc (fun _=>some (t,H));rw [hk] at this;dsimp only at this;rw [if_neg hn] at this;cases this
 | write=>
  rw [hk] at hr hh;dsimp only at hr hh ⊢;subst hr;subst hh;split
  ·exact h2
  ·rename_i hn;have:=hc (fun _=>some (t,H));rw [hk] at this;dsimp only at this;rw [if_neg hn] at this;cases this
 | call=>
  rw [hk] at hr hh;dsimp only at hr hh ⊢;subst hr;subst hh;split
  ·exact h2
  ·rename_i hn;have:=hc (fun _=>some (t,H));rw [hk] at this;dsimp only at this;rw [if_neg hn] at this;cases this
theorem AB {X:Cx G} {E:Env} (hX:X.Ok E) {rec:Rec G} (hr:mm E X.hp X.g rec) {bf:List Nat} {r:R} {Q:T->List Obj->Prop}:∀ (os:List bD) {i:Nat} {a:An} {rs:List (Rd G)} {ps:List (Nat×(List Obj->Option AV)×AV)} {hs:List (Nat×DS G×DS G)} {s:DS G} {k:DS G->Option R},
 TH X rs ps->dX X rec bf os i a rs hs s k=some r->(∀ s',s'.FR X.g=s.FR X.g->k s'=some r->Q (s'.tm X.g) (s'.Hv X.g))->Xe E X.hp bf os i ps (XX X hs) (s.tm X.g) (s.Hv X.g) Q
 | [],i,a,rs,ps,hs,s,k,_,h,hk=>⟨0,_,_,rfl,hk s rfl h⟩
 | ⟨d,gd,op⟩::os,i,a,rs,ps,hs,s,k,Lq,h,hk=>by
  rw [dX] at h
  cases gd with
  | some p=>cases h
  | none=>
   dsimp only at h;have act:∀ {c:DS G->Option R},tV X rec false (a.op i) d op s c=some r->∃ n v,∃ s':DS G,kj E.aI X.hp (jw E.fns (aq E X.hp n)) (jE E.fns (aq E X.hp n)) ⟨d,none,op⟩ (s.tm X.g) (s.Hv X.g)=some (v,s'.Hv X.g)/\s'.tm X.g=cP (s.tm X.g) d v/\s'.FR X.g=s.FR X.g/\c s'=some r:=by
    intro c h;have:=E3 (E:=E) (os:=[]) (Q:=fun t' H'=>∃ s':DS G,s'.tm X.g=t'/\s'.Hv X.g=H'/\s'.FR X.g=s.FR X.g/\c s'=some r) hX hr h (fun s' h1 h2=>IU.2 ⟨s',rfl,rfl,h1,h2⟩);obtain ⟨n,t',H',h1,s',e1,e2,e3,e4⟩:=this;obtain ⟨v,h2,h3⟩:=Nk h1;exact ⟨n,v,s',by rw [e2];exact h2,by rw [e1,h3],e3,e4⟩
   cases wX:op.kind with
   | pure=>
    rw [wX] at h;dsimp only at h;obtain ⟨n,v,s',h1,h2,h3,h4⟩:=act h;refine qn h1 (fun K=>by rw [wX]) (by rw [wX]) (by rw [wX]) ?_;have:=AB hX hr os Lq h4 (Q:=Q) fun s'' q1 q2=>hk s'' (by rw [q1,h3]) q2
    rw [h2] at this;exact this
   | read=>
    rw [wX] at h;dsimp only at h;obtain ⟨n,v,s',h1,h2,h3,h4⟩:=act h;have hq:Xd X ⟨i,op,s⟩ (i,FI E.aI ⟨d,none,op⟩ (s.tm X.g),v):=by
     refine ⟨rfl,fun A=>?_,?_⟩
     ·show FI E.aI ⟨d,none,op⟩ (s.tm X.g) A=_;unfold FI;simp only [c6];rw [hX.gl]
     ·show FI E.aI ⟨d,none,op⟩ (s.tm X.g) (s.Hv X.g)=some v;unfold kj at h1;unfold FI;simp only [c6] at h1 ⊢;unfold bY at h1;rw [wX] at h1;dsimp only at h1;split at h1
      ·rename_i u hu;injection h1 with h1;injection h1 with h1 _;subst h1;exact hu
      ·cases h1
    obtain ⟨hall,h4⟩:=vc hX.g hq h4;refine qn h1 (fun K=>by rw [wX];dsimp only;rw [if_pos hall]) (by rw [wX]) (by rw [wX]) ?_;have:=AB hX hr os (.cons hq Lq) h4 (Q:=Q) fun s'' q1 q2=>hk s'' (by rw [q1,h3]) q2
    rw [h2] at this;exact this
   | write=>
    rw [wX] at h;dsimp only at h;obtain ⟨n,v,s',h1,h2,h3,h4⟩:=act h;obtain ⟨hall,h4⟩:=qm hX.g Lq h4;refine qn h1 (fun K=>by rw [wX];dsimp only;rw [if_pos hall]) (by rw [wX]) (by rw [wX]) ?_;have:=AB hX hr os Lq h4 (Q:=Q) fun s'' q1 q2=>hk s'' (by rw [q1,h3]) q2
    rw [h2] at this;exact this
   | call=>
    rw [wX] at h;dsimp only at h;obtain ⟨n,v,s',h1,h2,h3,h4⟩:=act h;obtain ⟨hall,h4⟩:=qm hX.g Lq h4;refine qn h1 (fun K=>by rw [wX];dsimp only;rw [if_pos hall]) (by rw [wX]) (by rw [wX]) ?_;have:=AB hX hr os Lq h4 (Q:=Q) fun s'' q1 q2=>hk s'' (by rw [q1,h3]) q2
    rw [h2] at this;exact this
theorem Kh {E:Env} {hp:Nat->Bool} {os:List bD} {bf:List Nat} {b:Nat} {Q:Ex->ST->Prop} {s:ST} (h:Xe E hp bf os 0 [] [] s.tmps s.H (fun t H=>Q .normal ⟨t,H⟩)):WP E hp (.iY os bf) b Q s:=by
 obtain ⟨n,t',H',h1,hq⟩:=h;exact ⟨n+1,_,_,by rw [aq,h1],hq⟩
end
end nT
end
