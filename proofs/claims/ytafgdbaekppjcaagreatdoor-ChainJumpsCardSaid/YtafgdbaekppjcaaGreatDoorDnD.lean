/- Typed states: every operation but calls is what the machine does. No condition. -/
import Derived.Test.YtafgdbaekppjcaaGreatDoorDnC
set_option linter.unusedSectionVars false
set_option linter.unusedVariables false
set_option linter.unusedSimpArgs false
namespace oe
open Go hiding Obj mark
open Go.Pl Go.Am Go.Am.As
section
variable {G:Nat->Type} {R:Type}
def g7 (g:Ge G) (s:DS G) (m:Option (AV×List Obj)) (c:TV G->DS G->Option R) (r:R):Prop:=
 ∃ (w:TV G) (s':DS G),m=some (w.av g s'.ln,s'.Hv g)/\s'.tm g=s.tm g/\s'.FR g=s.FR g/\c w s'=some r
theorem jr {s:DS G} {pl:Nat} (hp:pl<=s.H.length) (o:TO G):(s.dL pl o).ln pl=o.len:=by
 unfold DS.ln ju DS.dL;dsimp only;by_cases hl:pl < s.H.length
 ·rw [if_pos hl,zaG hl]
 ·have:pl=s.H.length:=by omega
  subst this;rw [if_neg hl,zaj (by omega)];simp
theorem kK {s:DS G} {pl:Nat} {o:TO G} (h:s.fits pl o=true):pl<=s.H.length:=by
 unfold DS.fits at h;rw [za0] at h;exact zaB h.1
theorem S7 {g:Ge G} (hg:g.Ok) {s:DS G} {pl:Nat} {v:TV G} {c:TV G->DS G->Option R} {r:R} (h:UZ g s pl v c=some r):
 g7 g s (if aW (v.av g s.ln).cells=true then some (.aJ pl 1 0 0,putObj (s.Hv g) pl (.live .norm (v.av g s.ln).cells.length [(v.av g s.ln).cells])) else none) c r:=by
 have other:∀ {v:TV G},(if iE (v.cells g)&&s.fits pl (.box (v.cells g)) then c (.po pl 0) (s.dL pl (.box (v.cells g))) else none)=some r->g7 g s (if aW (v.av g s.ln).cells=true then some (.aJ pl 1 0 0,putObj (s.Hv g) pl (.live .norm (v.av g s.ln).cells.length [(v.av g s.ln).cells])) else none) c r:=by
  intro v h;split at h
  case isFalse=>cases h
  rename_i hc;rw [za0] at hc;obtain ⟨h1,h2,h3⟩:=fq (g:=g) hc.2;refine ⟨_,_,?_,h1,h2,h⟩;rw [dn,if_pos (fS g s.ln hc.1),h3];have e:(s.dL pl (.box (v.cells g))).ln=s.ln:=by
   have h4:=hc.2;unfold DS.fits at h4;rw [za0] at h4;exact xo (kK hc.2) rfl (by simpa using h4.2)
  rw [e,dy];rfl
 unfold UZ at h;split at h
 ·rename_i n t a;split at h
  case isFalse=>cases h
  rename_i hc;obtain ⟨h1,h2,h3⟩:=fq (g:=g) hc;refine ⟨_,_,?_,h1,h2,h⟩;have e:(TV.av g s.ln (.arr n t a)).cells=(List.map (enc g t) a.1).flatten:=rfl;have e1:aW (List.map (enc g t) a.1).flatten=true:=(cT hg (.arr n t)).one a;rw [e,if_pos e1,h3,rL hg,a.2];rfl
 ·exact other h
theorem Kq {g:Ge G} {s:DS G} {pl:Nat} {z:List AV} {c:TV G->DS G->Option R} {r:R} (h:F0 s pl z c=some r):
 g7 g s (if aW z=true then some (.aJ pl 1 0 0,putObj (s.Hv g) pl (.live .norm z.length [z])) else none) c r:=by
 unfold F0 at h;split at h
 case isFalse=>cases h
 rename_i hc;rw [za0] at hc;obtain ⟨h1,h2,h3⟩:=fq (g:=g) hc.2;refine ⟨_,_,?_,h1,h2,h⟩;rw [if_pos hc.1,h3,EI];rfl
theorem PL (g:Ge G) (ln:Nat->Nat) (n:Nat) (z:List AV):TV.cV g ln (List.replicate n (iI z))=List.replicate n z:=by
 rw [bu,zbB,gL]
theorem I9 {g:Ge G} (hg:g.Ok) {s:DS G} {pl sz:Nat} {z:List AV} {len:Nat} {parts:List (Nat×TV G)} {c:TV G->DS G->Option R} {r:R} (h:Qz g s pl sz z len parts c=some r):
 g7 g s (if z.length=sz/\aW z=true/\len*sz<=2 ^ 24 then
  (match kr sz (List.replicate len z) (parts.map fun p=>(p.1,p.2.av g s.ln)) with
   | some es=>some (.own pl len 0 len,putObj (s.Hv g) pl (.live .norm sz es))
   | none=>none) else none) c r:=by
 unfold Qz at h;split at h
 case isFalse=>cases h
 rename_i hc;simp only [za0] at hc;split at h
 case h_2=>cases h
 rename_i es oR;split at h
 case isFalse=>cases h
 rename_i hf;obtain ⟨h1,h2,h3⟩:=fq (g:=g) hf;obtain ⟨h4,h5⟩:=zL (g:=g) (ln:=s.ln) oR;rw [PL] at h4;rw [zap] at h5;refine ⟨_,_,?_,h1,h2,h⟩;rw [if_pos ⟨za3 hc.1,hc.2.1,zaB hc.2.2⟩,h4,h3];have fin:(uO g sz es).len=es.length->(uO g sz es).av g (s.dL pl (uO g sz es)).ln (s.FR g)= .live .norm sz (TV.cV g s.ln es)->some (AV.own pl len 0 len,putObj (s.Hv g) pl (.live .norm sz (TV.cV g s.ln es)))=some (TV.av g (s.dL pl (uO g sz es)).ln (.own pl),putObj (s.Hv g) pl ((uO g sz es).av g (s.dL pl (uO g sz es)).ln (s.FR g))):=by
  intro k1 k2;have e:(s.dL pl (uO g sz es)).ln pl=len:=by rw [jr (kK hf),k1];exact h5
  show _=some (AV.own pl (DS.ln _ pl) 0 (DS.ln _ pl),_);rw [e,k2]
 apply fin
 ·rcases Ic hg sz es with h | ⟨t,l,h,_,h6,_⟩
  ·rw [h];rfl
  ·rw [h];exact h6
 ·rcases Ic hg sz es with h | ⟨t,l,h,h7,h6,h8⟩
  ·rw [h] at hf ⊢;have k:=Cb (kK hf) (TO.cQ .norm sz es);unfold DS.fits at hf;simp only [za0] at hf;show Obj.live .norm sz _=_;rw [fY k es hf.2.2]
  ·rw [h,h8,<-h7];rfl
theorem eP {g:Ge G} {s:DS G} {id:Nat} {o o':TO G} (hid:s.H[id]?=some o) (hl:o'.len=o.len):(s.gV id o').ln=s.ln/\(s.gV id o').tm g=s.tm g/\(s.gV id o').FR g=s.FR g/\(s.gV id o').Hv g=(s.Hv g).set id (o'.av g s.ln (s.FR g)):=by
 have h:o'.len=s.ln id:=by unfold DS.ln ju;rw [hid];exact hl
 exact ⟨vD h,Nk h,Cc h,Jh h⟩
theorem yy {α:Type} {C:α->List AV} {n:Nat} (hC:∀ a,(C a).length=n):∀ (l:List α) (k:Nat) (w:α),k < l.length->putAt (l.map C).flatten (k*n) (C w)=((l.set k w).map C).flatten:=by
 have go:∀ (xs a b d:List AV),b.length=xs.length->putAt (a++(b++d)) a.length xs=a++(xs++d):=by
  intro xs;induction xs with
  | nil=>intro a b d hl;simp at hl;simp [putAt,hl]
  | cons x xs ih=>
   intro a b d hl
   cases b with
   | nil=>simp at hl
   | cons y b=>
    have:=ih (a++[x]) b d (by simpa using hl);simp only [za8,zaA,zaH,zbT] at this;simp only [putAt];rw [show (a++(y::b++d)).set a.length x=a++x::(b++d) by simp];rw [this];simp
 have key:∀ (l:List α) (k:Nat) (w:α) (a:List AV),k < l.length->putAt (a++(l.map C).flatten) (a.length+k*n) (C w)=a++((l.set k w).map C).flatten:=by
  intro l;induction l with
  | nil=>intro k w a hk;simp at hk
  | cons x l ih=>
   intro k w a hk
   cases k with
   | zero=>
    simp only [za5,zb,zbh,Nat.zero_mul,zb7];exact go _ _ _ _ (by rw [hC,hC])
   | succ k=>
    simp only [za5,zb,List.set_cons_succ];rw [<-zaH,<-zaH,<-ih k w (a++C x) (by simpa using hk)];congr 1;rw [za8,hC,Nat.succ_mul];omega
 intro l k w hk;have:=key l k w [] hk;simpa using this
theorem nM {s:DS G} {id:Nat} {fl:Fl} {t:Ty} {l:List (t.D G)} (hid:s.H[id]?=some (.aQ fl t l)):s.ln id=l.length:=by unfold DS.ln ju;rw [hid];rfl
theorem Kr {g:Ge G} (hg:g.Ok) {s:DS G} {n:Nat} {x v:TV G} {c:TV G->DS G->Option R} {r:R} (h:F1 g s n x v c=some r):
 g7 g s (match storeAt (s.Hv g) n (x.av g s.ln) (v.av g s.ln) with | some H'=>some (.aY [],H') | none=>none) c r:=by
 unfold F1 at h;split at h
 ·rename_i id o;split at h
  ·rename_i cs hid;split at h
   case isFalse=>cases h
   rename_i hc;simp only [za0] at hc;have e1:=za3 hc.1;have e2:=zaB hc.2.1;obtain ⟨k1,k2,k3,k4⟩:=eP (g:=g) (o':= .box (mA cs o (v.cells g))) hid rfl;refine ⟨_,_,?_,k2,k3,h⟩;rw [k1,k4];simp only [TV.av,storeAt,aC,bl hid,TO.av,zaA,cy,dn,dy,e1];rw [if_pos ⟨trivial,trivial,e2,fS g s.ln hc.2.2,rfl⟩];simp only [zaq,zbh,yl,oL]
  ·rename_i m t a hid;split at h
   ·rename_i m' t' a';split at h
    case isFalse=>cases h
    rename_i hh;obtain ⟨rfl,rfl⟩:=hh;split at h
    case isFalse=>cases h
    rename_i hc;simp only [za0] at hc;have e1:=za3 hc.1;have e2:=za3 hc.2;subst e1;subst e2;obtain ⟨k1,k2,k3,k4⟩:=eP (g:=g) (o':= .arr m' t' a') hid rfl;refine ⟨_,_,?_,k2,k3,h⟩;rw [k1,k4];have e:(TV.av g s.ln (.arr m' t' a')).cells=(List.map (enc g t') a'.1).flatten:=rfl;have hl:(List.map (enc g t') a'.1).flatten.length=m'*t'.n g:=by rw [rL hg,a'.2]
    have zm:(List.map (enc g t') a.1).flatten.length=m'*t'.n g:=by rw [rL hg,a.2]
    have e1:aW (List.map (enc g t') a'.1).flatten=true:=(cT hg (.arr m' t')).one a';rw [show (TV.po id 0:TV G).av g s.ln= .aJ id 1 0 0 from rfl];simp only [storeAt,aC,bl hid,TO.av,zaA,cy,e,hl];rw [if_pos ⟨trivial,trivial,by omega,e1,rfl⟩];simp only [zaq,zbh];have go:∀ (xs b a:List AV),b.length=xs.length->putAt (a++b) a.length xs=a++xs:=by
     intro xs;induction xs with
     | nil=>intro b a hl;simp at hl;simp [putAt,hl]
     | cons x xs ih=>
      intro b a hl
      cases b with
      | nil=>simp at hl
      | cons y b=>
       have:=ih b (a++[x]) (by simpa using hl);simp only [za8,zaA,zaH,zbT] at this;simp only [putAt];rw [show (a++y::b).set a.length x=a++x::b by simp,this]
    have:=go (List.map (enc g t') a'.1).flatten (List.map (enc g t') a.1).flatten [] (by rw [hl,zm]);simp only [zc3,List.length_nil] at this;rw [this];rfl
   ·split at h
    case isFalse=>cases h
    rename_i hc;simp only [za0] at hc;have e1:=za3 hc.1;have e2:=za3 hc.2;subst e2;split at h
    case h_2=>cases h
    rename_i w hw;obtain ⟨u,h1,h2⟩:=bind_some h;obtain ⟨h3,h4,h5⟩:=oj h1;obtain ⟨k1,k2,k3,k4⟩:=eP (g:=g) (o':= .arr m t (a.put o w)) hid rfl;refine ⟨_,_,?_,k2,k3,h2⟩;rw [k1,k4];have e3:(v.av g s.ln).cells=enc g t w:=by
     have:=Cd hg (ln:=s.ln) hw;rw [fT hw] at this;rw [dn];exact this
    simp only [TV.av,storeAt,aC,bl hid,TO.av,zaA,cy,e3,(cT hg t).len,(cT hg t).one,e1,zbv];rw [if_pos ⟨trivial,trivial,by omega,trivial,rfl⟩];simp only [zaq,zbh];have:=yy (cT hg t).len a.1 o w (by rw [a.2];omega);rw [e1,zbv] at this;rw [this];rfl
  ·cases h
 ·rename_i id i o;split at h
  case h_2=>cases h
  rename_i fl t l hid;split at h
  case isFalse=>cases h
  rename_i hc;simp only [za0] at hc;have e1:=za3 hc.2.1;have e2:=zaB hc.2.2.1;obtain ⟨u,h1,h2⟩:=bind_some h;obtain ⟨h3,h4,h5⟩:=oi h1;split at h2
  case h_2=>cases h2
  rename_i w hw;obtain ⟨k1,k2,k3,k4⟩:=eP (g:=g) (o':= .aQ fl t (l.set i.toNat w)) hid (by simp [TO.len]);refine ⟨_,_,?_,k2,k3,h2⟩;rw [k1,k4];have e3:putAt (enc g t u) o (TV.aP g s.ln (v.cells g))=enc g t w:=by
   have:=Cd hg (ln:=s.ln) hw;rw [fT hw,oL,gJ hg] at this;exact this
  simp only [TV.av,storeAt,aC,bl hid,TO.av,zaa,cy,dn,dy,e1];rw [if_pos ⟨nM hid,trivial,e2,fS g s.ln hc.2.2.2,hc.1⟩];simp only [zav,h5,zaN,e3,zbS]
 ·rename_i id sz i o;split at h
  case h_2=>cases h
  rename_i m t a hid;split at h
  case isFalse=>cases h
  rename_i hc;simp only [za0] at hc;have e1:=za3 hc.1;have e2:=za3 hc.2.1;have e4:=za3 hc.2.2;subst e1;subst e2;subst e4;split at h
  case h_2=>cases h
  rename_i w hw;obtain ⟨u,h1,h2⟩:=bind_some h;obtain ⟨h3,h4,h5⟩:=oj h1;obtain ⟨k1,k2,k3,k4⟩:=eP (g:=g) (o':= .arr m t (a.put i.toNat w)) hid rfl;refine ⟨_,_,?_,k2,k3,h2⟩;rw [k1,k4];have e3:(v.av g s.ln).cells=enc g t w:=by
   have:=Cd hg (ln:=s.ln) hw;rw [fT hw] at this;rw [dn];exact this
  have hk:i.toNat < m:=by omega
  have hm:i.toNat*t.n g+t.n g<=m*t.n g:=by
   rw [<-Nat.succ_mul];exact zag _ hk
  simp only [TV.av,storeAt,aC,bl hid,TO.av,zaA,cy,e3,(cT hg t).len,(cT hg t).one,zb7];rw [if_pos ⟨trivial,trivial,hm,trivial,rfl⟩];simp only [zaq,zbh];rw [yy (cT hg t).len a.1 i.toNat w (by rw [a.2];exact hk)];rfl
 ·cases h
theorem ry {g:Ge G} {s:DS G} {id:Nat} {o o':TO G} (hid:s.H[id]?=some o):(s.cY id o').ln id=o'.len/\(s.cY id o').tm g=s.tm g/\(s.cY id o').FR g=s.FR g/\(s.cY id o').Hv g=(s.Hv g).set id (o'.av g (s.cY id o').ln (s.FR g)):=by
 refine ⟨?_,Nl g s id o',Ce g s id o',Ji g s id o'⟩;have hl:=(zab.1 hid).1;unfold DS.ln ju DS.cY;dsimp only;rw [zaG (by simpa using hl)]
theorem lY {α:Type} {qG:Nat} {l m v:List α} (h:bX qG l m=some v):((l.length+m.length)*qG<=2 ^ 40/\l.length+m.length<=2 ^ 40)/\v=l++m:=by
 unfold bX at h;split at h
 ·rename_i hc;injection h with h;exact ⟨hc,h.symm⟩
 ·cases h
theorem G7 {H:List Obj} {pl sz qG id:Nat} {fl:Fl} {es new:List (List AV)} {x:AV} (hH:H[id]?=some (.live fl sz es)) (hx:dz H x=some new) (ha:(new.all fun e=>e.length==sz&&aW e)=true) (hf:fl.uf=true)
 (hb:(es.length+new.length)*qG<=2 ^ 40/\es.length+new.length<=2 ^ 40):Am.append H pl sz qG (.own id es.length 0 es.length) x=some (.own id (es.length+new.length) 0 (es.length+new.length),H.set id (.live fl sz (es++new))):=by
 simp only [Am.append,hx,ha,if_true,aC,hH,cy,hf];rw [if_pos ⟨trivial,trivial,trivial,trivial,hb.1,hb.2⟩]
theorem I8 {g:Ge G} (hg:g.Ok) {s:DS G} {pl sz qG:Nat} {x y:TV G} {c:TV G->DS G->Option R} {r:R} (h:QA g s sz qG x y c=some r):
 g7 g s (Am.append (s.Hv g) pl sz qG (x.av g s.ln) (y.av g s.ln)) c r:=by
 unfold QA at h;split at h
 case h_2=>cases h
 rename_i id;have fin:∀ {o o':TO G} {fl:Fl} {es new:List (List AV)} {r:R},s.H[id]?=some o->o.av g s.ln (s.FR g)= .live fl sz es->dz (s.Hv g) (y.av g s.ln)=some new->(new.all fun e=>e.length==sz&&aW e)=true->fl.uf=true->
  (es.length+new.length)*qG<=2 ^ 40/\es.length+new.length<=2 ^ 40->o.len=es.length->o'.len=es.length+new.length->o'.av g (s.cY id o').ln (s.FR g)= .live fl sz (es++new)->c (.own id) (s.cY id o')=some r->g7 g s (Am.append (s.Hv g) pl sz qG ((TV.own id:TV G).av g s.ln) (y.av g s.ln)) c r:=by
  intro o o' fl es new r hid h1 h2 h3 h4 h5 h6 h7 h8 h9;obtain ⟨k1,k2,k3,k4⟩:=ry (g:=g) (o':=o') hid;have e:s.ln id=es.length:=by unfold DS.ln ju;rw [hid];exact h6
  refine ⟨_,_,?_,k2,k3,h9⟩;have hH:(s.Hv g)[id]?=some (.live fl sz es):=by rw [bl hid,h1]
  rw [show (TV.own id:TV G).av g s.ln= .own id (s.ln id) 0 (s.ln id) from rfl,e,G7 hH h2 h3 h4 h5];rw [show (TV.own id:TV G).av g (s.cY id o').ln= .own id ((s.cY id o').ln id) 0 ((s.cY id o').ln id) from rfl,k1,k4,h7,h8]
 split at h
 ·rename_i fl t l u m hid hy;split at h
  case isFalse=>cases h
  rename_i e;subst e;split at h
  case isFalse=>cases h
  rename_i hc;simp only [za0] at hc;have e1:=za3 hc.2;obtain ⟨v,h1,h2⟩:=bind_some h;obtain ⟨h3,rfl⟩:=lY h1;refine fin hid (by rw [<-e1];rfl) (lO hy) (by rw [<-e1];exact U0 hg m) hc.1 (by simpa [LK.av] using h3) (by simp [TO.len]) (by simp [TO.len,LK.av]) ?_ h2;simp only [TO.av,e1,LK.av,zal]
 ·rename_i fl t l es hid hy;split at h
  case isFalse=>cases h
  rename_i hc;simp only [za0] at hc;have e1:=za3 hc.2;split at h
  case h_2=>
   split at h
   case h_2=>cases h
   rename_i m hm;split at h
   case isFalse=>cases h
   rename_i hok;rw [za0] at hok;obtain ⟨v,h1,h2⟩:=bind_some h;obtain ⟨h3,_⟩:=lY h1;have hml:m.length=es.length:=by
    have:=(iL hg s.ln hm).2;rw [zaa] at this;exact this.symm
   have hy':=lO (g:=g) hy;refine fin hid (by rw [<-e1];rfl) hy' (th hok.1) hc.1 (by rw [hml] at h3;simpa [LK.av,bu] using h3) (by simp [TO.len]) (by simp [TO.len,LK.av,bu]) ?_ h2;simp only [TO.av,e1,LK.av];rw [fY (rJ s id _) _ hok.2]
  rename_i m hm;obtain ⟨v,h1,h2⟩:=bind_some h;obtain ⟨h3,rfl⟩:=lY h1;obtain ⟨h4,h5⟩:=iL hg s.ln hm;have hy':=lO (g:=g) hy;rw [show (LK.raw es).av g s.ln=TV.cV g s.ln es from rfl,h4] at hy';refine fin hid (by rw [<-e1];rfl) hy' (by rw [<-e1];exact U0 hg m) hc.1 (by simpa using h3) (by simp [TO.len]) (by simp [TO.len]) ?_ h2;simp only [TO.av,e1,zal]
 ·rename_i fl sz' es t m hid hy;split at h
  case isFalse=>cases h
  rename_i hc;simp only [za0] at hc;have e1:=za3 hc.2.1;have e2:=za3 hc.2.2;subst e2;split at h
  case h_2=>cases h
  rename_i l hl;obtain ⟨v,h1,h2⟩:=bind_some h;obtain ⟨h3,rfl⟩:=lY h1;obtain ⟨h4,h5⟩:=iL hg s.ln hl;refine fin hid (es:=l.map (enc g t)) (by simp only [TO.av,h4]) (lO hy) (by rw [<-e1];exact U0 hg m) hc.1 (by simpa [LK.av] using h3) (by simp [TO.len,h5]) (by simp [TO.len,LK.av]) ?_ h2;simp only [TO.av,e1,LK.av,zal]
 ·rename_i fl sz' es es' hid hy;split at h
  case isFalse=>cases h
  rename_i hc;simp only [za0] at hc;have e2:=za3 hc.2.2;subst e2;obtain ⟨v,h1,h2⟩:=bind_some h;obtain ⟨h3,rfl⟩:=lY h1;split at h2
  case isFalse=>cases h2
  rename_i hn;refine fin hid (es:=TV.cV g s.ln es) rfl (lO hy) (th hc.2.1) hc.1 (by simpa [LK.av,bu] using h3) (by simp [TO.len,bu]) (by simp [TO.len,LK.av,bu]) ?_ h2;simp only [TO.av,LK.av];rw [fY (rJ s id _) _ hn,bu,bu,bu,zal]
 ·cases h
theorem S8 {g:Ge G} (hg:g.Ok) {s:DS G} {pl sz qG:Nat} {z:List AV} {n:TV G} {c:TV G->DS G->Option R} {r:R} (h:U1 s pl sz z qG n c=some r):
 g7 g s (match n.av g s.ln,n.av g s.ln with
  | .int .i64 n,.int .i64 m=>if n=m/\0<=n/\n*qG<=2 ^ 40/\n<=2 ^ 40/\z.length=sz/\aW z=true then
   some (.own pl n.toNat 0 n.toNat,putObj (s.Hv g) pl (.live .norm sz (List.replicate n.toNat z))) else none
  | _,_=>none) c r:=by
 unfold U1 at h;split at h
 case h_2=>cases h
 rename_i n;split at h
 case h_2=>cases h
 rename_i p hp;split at h
 case isFalse=>cases h
 rename_i hc;have e:=za3 hc;subst e;obtain ⟨l,h1,h2⟩:=bind_some h;split at h2
 case isFalse=>cases h2
 rename_i hf;unfold iD at h1;split at h1
 case isFalse=>cases h1
 rename_i hb;injection h1 with h1;subst h1
 obtain ⟨e1,e2⟩:=MC (g:=g) hp;obtain ⟨k1,k2,k3⟩:=fq (g:=g) hf;refine ⟨_,_,?_,k1,k2,h2⟩;have e3:p.1.n g=1:=by
  have:=(cT hg p.1).len p.2;rw [<-e1] at this;omega
 have e4:aW z=true:=by rw [e1];exact (cT hg p.1).one p.2
 simp only [TV.av];rw [if_pos ⟨trivial,hb.1,hb.2.1,hb.2.2,e2,e4⟩,k3,jr (kK hf)];simp only [TO.len,zap,TO.av,e3,zbB,<-e1]
def posOf:List (TV G)->Option (List AV)
 | []=>some []
 | .po id o::r=>(match posOf r with | some l=>some (.aJ id 1 0 o::l) | none=>none)
 | _::_=>none
theorem Er {g:Ge G} {ln:Nat->Nat}:∀ {l:List (TV G)} {q:List AV},posOf l=some q->TV.aP g ln l=q
 | [],q,h=>by cases h;rfl
 | x::r,q,h=>by
  unfold posOf at h;split at h
  ·rename_i e;cases e
  ·rename_i id o r' e;injection e with e1 e2
   subst e1;subst e2;split at h
   case h_2=>cases h
   rename_i m hm;injection h with h;subst h
   rw [TV.aP,Er hm];rfl
  ·cases h
theorem tX {x:List UInt8}:∀ (l:List (List UInt8×Int)) (i:Nat),(Hl x l=none/\iZ .str (.str x) i (l.map fun p=>(.str p.1,.int .i64 p.2))=some none/\∀ v,Fs x v l=l++[(x,v)])\/
 ∃ (j:Nat) (n:Int),Hl x l=some n/\iZ .str (.str x) i (l.map fun p=>(.str p.1,.int .i64 p.2))=some (some (i+j,.int .i64 n))/\∀ v,Fs x v l=l.set j (x,v)
 | [],i=> .inl ⟨rfl,rfl,fun _=>rfl⟩
 | p::r,i=>by
  by_cases h:x=p.1
  ·refine .inr ⟨0,p.2,by rw [Hl,if_pos h],?_,fun v=>by rw [Fs,if_pos h];rfl⟩;simp only [za5,iZ,dj,h,beq_self_eq_true,zb7]
  ·have hb:(x==p.1)=false:=by simpa using h
   rcases tX r (i+1) with ⟨h1,h2,h3⟩ | ⟨j,n,h1,h2,h3⟩
   ·refine .inl ⟨by rw [Hl,if_neg h,h1],?_,fun v=>by rw [Fs,if_neg h,h3];rfl⟩;simp only [za5,iZ,dj,hb,h2]
   ·refine .inr ⟨j+1,n,by rw [Hl,if_neg h,h1],?_,fun v=>by rw [Fs,if_neg h,h3];rfl⟩;simp only [za5,iZ,dj,hb,h2];rw [show i+1+j=i+(j+1) by omega]
def Mr (s:DS G) (k:CK) (z:List (TV G)) (m x:TV G) (c:TV G->DS G->Option R):Option R:=match m,x with
 | .raw v,.str a=>(match v with
  | .mp id=>(match s.H[id]? with
   | some (.mg l)=>(match k with
    | .str=>cond (Hl a l).isSome (c (.aY [.int .i64 ((Hl a l).getD 0),.bool true]) s) (c (.aY (z++[.bool false])) s)
    | _=>none)
   | _=>none)
  | _=>none)
 | _,_=>none
theorem PM {g:Ge G} {s:DS G} {k:CK} {z:AV} {m x:TV G} {c:TV G->DS G->Option R} {r:R} (h:Mr s k [uX z] m x c=some r):
 g7 g s (match gY (s.Hv g) k z true (m.av g s.ln) (x.av g s.ln) with | some v=>some (v,s.Hv g) | none=>none) c r:=by
 unfold Mr at h;split at h
 case h_2=>cases h
 rename_i v a;split at h
 case h_2=>cases h
 rename_i id;split at h
 case h_2=>cases h
 rename_i l hid;split at h
 case h_2=>cases h
 have hH:gC (s.Hv g) id=some (l.map fun p=>(.str p.1,.int .i64 p.2)):=by unfold gC;rw [bl hid];rfl
 have e:gY (s.Hv g) .str z true ((TV.raw (.mp id):TV G).av g s.ln) ((TV.str a:TV G).av g s.ln)=some (match Hl a l with | some n=> .aY [.int .i64 n,.bool true] | none=> .aY [z,.bool false]):=by
  show gY (s.Hv g) .str z true (.mp id) (.str a)=_;unfold gY entries;dsimp only;rw [hH];dsimp only;rcases tX (x:=a) l 0 with ⟨h1,h2,_⟩ | ⟨j,n,h1,h2,_⟩
  ·rw [h1,h2];rfl
  ·rw [h1,h2];rfl
 rw [e]
 cases hq:Hl a l with
 | none=>
  rw [hq] at h;refine ⟨.aY [uX z,.bool false],s,?_,rfl,rfl,h⟩;show _=some (AV.aY [_,_],_);rw [vE];rfl
 | some n=>
  rw [hq] at h;exact ⟨.aY [.int .i64 n,.bool true],s,rfl,rfl,rfl,h⟩
theorem tY {x:Int}:∀ (l:List Int) (i:Nat),(l.contains x=false/\iZ (.int .i64) (.int .i64 x) i (l.map fun n=>(.int .i64 n,.bool true))=some none)\/
 ∃ j:Nat,l.contains x=true/\l[j]?=some x/\iZ (.int .i64) (.int .i64 x) i (l.map fun n=>(.int .i64 n,.bool true))=some (some (i+j,.bool true))
 | [],i=> .inl ⟨rfl,rfl⟩
 | p::r,i=>by
  by_cases h:x=p
  ·refine .inr ⟨0,by rw [List.contains_cons,h,beq_self_eq_true,Bool.true_or],by rw [h];rfl,?_⟩;simp only [za5,iZ,dj,h,beq_self_eq_true,zb7,and_self,if_pos]
  ·have hb:(x==p)=false:=by simpa using h
   rcases tY (x:=x) r (i+1) with ⟨h1,h2⟩ | ⟨j,h1,h2,h3⟩
   ·refine .inl ⟨by rw [List.contains_cons,hb,h1];rfl,?_⟩;simp only [za5,iZ,dj,hb,h2,and_self,if_pos]
   ·refine .inr ⟨j+1,by rw [List.contains_cons,hb,h1];rfl,h2,?_⟩;simp only [za5,iZ,dj,hb,h3,and_self,if_pos];rw [show i+1+j=i+(j+1) by omega]
def Ms (s:DS G) (k:CK) (z:AV) (m x:TV G) (c:TV G->DS G->Option R):Option R:=match m,x with
 | .raw v,.int kd a=>(match v with
  | .mp id=>(match s.H[id]? with
   | some (.imp l)=>(match z with
    | .bool b=>if k= .int .i64/\kd= .i64/\b=false then c (.bool (isM a l)) s else none
    | _=>none)
   | _=>none)
  | _=>none)
 | _,_=>none
theorem PN {g:Ge G} {s:DS G} {k:CK} {z:AV} {m x:TV G} {c:TV G->DS G->Option R} {r:R} (h:Ms s k z m x c=some r):
 g7 g s (match gY (s.Hv g) k z false (m.av g s.ln) (x.av g s.ln) with | some v=>some (v,s.Hv g) | none=>none) c r:=by
 unfold Ms at h;split at h
 case h_2=>cases h
 rename_i v kd a;split at h
 case h_2=>cases h
 rename_i id;split at h
 case h_2=>cases h
 rename_i l hid;split at h
 case h_2=>cases h
 rename_i b;split at h
 case isFalse=>cases h
 rename_i hk;obtain ⟨rfl,rfl,rfl⟩:=hk;have hH:gC (s.Hv g) id=some (l.map fun n=>(.int .i64 n,.bool true)):=by unfold gC;rw [bl hid];rfl
 refine ⟨.bool (isM a l),s,?_,rfl,rfl,h⟩;show (match gY (s.Hv g) (.int .i64) (.bool false) false (.mp id) (.int .i64 a) with | some v=>some (v,s.Hv g) | none=>none)=some (AV.bool (isM a l),s.Hv g);unfold gY entries isM;dsimp only;rw [hH];dsimp only;rcases tY (x:=a) l 0 with ⟨h1,h2⟩ | ⟨j,h1,_,h2⟩
 ·rw [h1,h2];rfl
 ·rw [h1,h2];rfl
def Mt (s:DS G) (k:CK) (m x v:TV G) (c:TV G->DS G->Option R):Option R:=match m,x,v with
 | .raw w,.int kd a,.bool b=>(match w with
  | .mp id=>(match s.H[id]? with
   | some (.imp l)=>(match b with
    | true=>if k= .int .i64/\kd= .i64 then c (.raw (.aY [])) (s.gV id (.imp (isP a l))) else none
    | false=>none)
   | _=>none)
  | _=>none)
 | _,_,_=>none
theorem PR {g:Ge G} {s:DS G} {k:CK} {m x v:TV G} {c:TV G->DS G->Option R} {r:R} (h:Mt s k m x v c=some r):
 g7 g s (match gX (s.Hv g) k (m.av g s.ln) (x.av g s.ln) (v.av g s.ln) with | some H'=>some (.aY [],H') | none=>none) c r:=by
 unfold Mt at h;split at h
 case h_2=>cases h
 rename_i w kd a b;split at h
 case h_2=>cases h
 rename_i id;split at h
 case h_2=>cases h
 rename_i l hid;split at h
 case h_2=>cases h
 split at h
 case isFalse=>cases h
 rename_i hk;obtain ⟨rfl,rfl⟩:=hk;obtain ⟨k1,k2,k3,k4⟩:=eP (g:=g) (o':= .imp (isP a l)) hid rfl;have hH:gC (s.Hv g) id=some (l.map fun n=>(.int .i64 n,.bool true)):=by unfold gC;rw [bl hid];rfl
 refine ⟨.raw (.aY []),_,?_,k2,k3,h⟩;show (match gX (s.Hv g) (.int .i64) (.mp id) (.int .i64 a) (.bool true) with | some H'=>some (.aY [],H') | none=>none)=some (AV.aY [],_);rw [k4];unfold gX isP;dsimp only;rw [hH];dsimp only;rcases tY (x:=a) l 0 with ⟨h1,h2⟩ | ⟨j,h1,h3,h2⟩
 ·rw [h2,h1];dsimp only;rw [if_pos (by simp only [dj];rfl)];show some (AV.aY [],(s.Hv g).set id (.mp _))=some (AV.aY [],(s.Hv g).set id (.mp ((l++[a]).map _)));rw [zal];rfl
 ·rw [h2,h1];dsimp only;show some (AV.aY [],(s.Hv g).set id (.mp _))=some (AV.aY [],(s.Hv g).set id (.mp (l.map _)));rw [zaD];congr 4;apply zbL
  intro i;rw [List.getElem?_set];by_cases hi:j=i
  ·subst hi;obtain ⟨hl,he⟩:=zab.1 h3;rw [if_pos rfl,if_pos (by rw [zaa];exact hl),zav,h3];rfl
  ·rw [if_neg hi]
def Mu (s:DS G) (m:TV G) (c:TV G->DS G->Option R):Option R:=match m with
 | .raw v=>(match v with
  | .mp id=>(match s.H[id]? with
   | some (.mg l)=>c (.int .i64 (l.length:Int)) s
   | _=>none)
  | _=>none)
 | _=>none
theorem PS {g:Ge G} {s:DS G} {m:TV G} {c:TV G->DS G->Option R} {r:R} (h:Mu s m c=some r):
 g7 g s (match jv (s.Hv g) (m.av g s.ln) with | some v=>some (v,s.Hv g) | none=>none) c r:=by
 unfold Mu at h;split at h
 case h_2=>cases h
 rename_i v;split at h
 case h_2=>cases h
 rename_i id;split at h
 case h_2=>cases h
 rename_i l hid;have hH:gC (s.Hv g) id=some (l.map fun p=>(.str p.1,.int .i64 p.2)):=by unfold gC;rw [bl hid];rfl
 refine ⟨.int .i64 (l.length:Int),s,?_,rfl,rfl,h⟩;show (match jv (s.Hv g) (.mp id) with | some v=>some (v,s.Hv g) | none=>none)=_;unfold jv entries;dsimp only;rw [hH];dsimp only;rw [zaa];rfl
def Mv (s:DS G) (k:CK) (m x v:TV G) (c:TV G->DS G->Option R):Option R:=match m,x,v with
 | .raw w,.str a,.int kd n=>(match w with
  | .mp id=>(match s.H[id]? with
   | some (.mg l)=>(match k with
    | .str=>if kd= .i64 then c (.raw (.aY [])) (s.gV id (.mg (Fs a n l))) else none
    | _=>none)
   | _=>none)
  | _=>none)
 | _,_,_=>none
theorem PT {g:Ge G} {s:DS G} {k:CK} {m x v:TV G} {c:TV G->DS G->Option R} {r:R} (h:Mv s k m x v c=some r):
 g7 g s (match gX (s.Hv g) k (m.av g s.ln) (x.av g s.ln) (v.av g s.ln) with | some H'=>some (.aY [],H') | none=>none) c r:=by
 unfold Mv at h;split at h
 case h_2=>cases h
 rename_i w a kd n;split at h
 case h_2=>cases h
 rename_i id;split at h
 case h_2=>cases h
 rename_i l hid;split at h
 case h_2=>cases h
 split at h
 case isFalse=>cases h
 rename_i hk;subst hk;obtain ⟨k1,k2,k3,k4⟩:=eP (g:=g) (o':= .mg (Fs a n l)) hid rfl;have hH:gC (s.Hv g) id=some (l.map fun p=>(.str p.1,.int .i64 p.2)):=by unfold gC;rw [bl hid];rfl
 refine ⟨.raw (.aY []),_,?_,k2,k3,h⟩;show (match gX (s.Hv g) .str (.mp id) (.str a) (.int .i64 n) with | some H'=>some (.aY [],H') | none=>none)=some (AV.aY [],_);rw [k4];unfold gX;dsimp only;rw [hH];dsimp only;rcases tX (x:=a) l 0 with ⟨h1,h2,h3⟩ | ⟨j,q,h1,h2,h3⟩
 ·rw [h2];dsimp only;rw [if_pos (by simp only [dj];rfl),h3 n];show some (AV.aY [],(s.Hv g).set id (.mp _))=some (AV.aY [],(s.Hv g).set id (.mp ((l++[(a,n)]).map _)));rw [zal];rfl
 ·rw [h2];dsimp only;rw [h3 n];show some (AV.aY [],(s.Hv g).set id (.mp _))=some (AV.aY [],(s.Hv g).set id (.mp ((l.set j (a,n)).map _)));rw [zbS,zaD]
def VR (s:DS G) (x:TV G) (c:TV G->DS G->Option R):Option R:=match x with
 | .raw w=>(match w with
  | .qB id=>(match s.H[id]? with
   | some (.yN a p)=>cond (Nat.blt p.toNat a.length) (c (.aY [.bool true,.int .i64 (p.toNat:Int),.int .i32 (sG a p).1]) (s.gV id (.yN a (sG a p).2))) (c (.aY [.bool false]) s)
   | _=>none)
  | _=>none)
 | _=>none
theorem S9 {g:Ge G} {s:DS G} {x:TV G} {c:TV G->DS G->Option R} {r:R} (h:VR s x c=some r):
 g7 g s (uK (s.Hv g) (x.av g s.ln)) c r:=by
 unfold VR at h;split at h
 case h_2=>cases h
 rename_i w;split at h
 case h_2=>cases h
 rename_i id;split at h
 case h_2=>cases h
 rename_i a p hid;have hH:(s.Hv g)[id]?=some (.it a p.toNat):=bl hid;have e:uK (s.Hv g) ((TV.raw (.qB id):TV G).av g s.ln)=if p.toNat < a.length then some (.aY [.bool true,.int .i64 (p.toNat:Int),.int .i32 (sG a p).1],(s.Hv g).set id (.it a (sG a p).2.toNat)) else some (.aY [.bool false],s.Hv g):=by
  show uK (s.Hv g) (.qB id)=_;unfold uK;dsimp only;rw [hH];rfl
 rw [e]
 cases hb:Nat.blt p.toNat a.length with
 | true=>
  rw [hb] at h;have hlt:p.toNat < a.length:=by simpa [zbV] using hb
  obtain ⟨k1,k2,k3,k4⟩:=eP (g:=g) (o':= .yN a (sG a p).2) hid rfl;refine ⟨.aY [.bool true,.int .i64 (p.toNat:Int),.int .i32 (sG a p).1],_,?_,k2,k3,h⟩;rw [if_pos hlt,k4];rfl
 | false=>
  rw [hb] at h;have hlt:¬ p.toNat < a.length:=by
   intro hc;rw [show Nat.blt p.toNat a.length=true by simpa [zbV] using hc] at hb
   cases hb
  refine ⟨.aY [.bool false],s,?_,rfl,rfl,h⟩;rw [if_neg hlt];rfl
def Z6 (g:Ge G) (H:List (TO G)) (sz id:Nat) (lo hi:Option (TV G)) (c:TV G->Option R):Option R:=match lo,hi with
 | none,some h=>(match h with
  | .int _ n=>(match H[id]? with
   | some (.aQ fl u l)=>if Nat.beq (u.n g) sz&&decide (n=0) then c (.raw (.own id l.length 0 0)) else none
   | _=>none)
  | _=>none)
 | _,_=>none
def VS (g:Ge G) (s:DS G) (sz:Nat) (x:TV G) (lo hi:Option (TV G)) (c:TV G->Option R):Option R:=match x with
 | .own id=>Z6 g s.H sz id lo hi c
 | .raw v=>(match v with
  | .bF=>(match lo,hi with
   | none,some h=>(match h with | .int _ n=>if n=0 then c (.raw .bF) else none | _=>none)
   | _,_=>none)
  | _=>none)
 | x=>UX g sz x lo hi c
theorem Ta {g:Ge G} (hg:g.Ok) {s:DS G} {sz:Nat} {x:TV G} {lo hi:Option (TV G)} {c:TV G->Option R} {r:R} (h:VS g s sz x lo hi c=some r):∃ w:TV G,slc (s.Hv g) sz (x.av g s.ln) (lo.map (TV.av g s.ln)) (hi.map (TV.av g s.ln))=some (w.av g s.ln)/\c w=some r:=by
 unfold VS at h;split at h
 ·rename_i id;unfold Z6 at h;split at h
  case h_2=>cases h
  split at h
  case h_2=>cases h
  rename_i k n;split at h
  case h_2=>cases h
  rename_i fl u l hid;split at h
  case isFalse=>cases h
  rename_i hc;rw [za0,decide_eq_true_eq] at hc;have e:=za3 hc.1;have e2:s.ln id=l.length:=by unfold DS.ln ju;rw [hid];rfl
  obtain ⟨hc1,hc2⟩:=hc;subst hc2;refine ⟨_,?_,h⟩;simp only [TV.av,slc,aC,bl hid,TO.av,zaa,e2,e,zaN,Option.map_none,eD];simp
 ·rename_i v;split at h
  case h_2=>cases h
  split at h
  case h_2=>cases h
  split at h
  case h_2=>cases h
  rename_i k n;split at h
  case isFalse=>cases h
  rename_i hn;subst hn;exact ⟨_,rfl,h⟩
 ·exact Rn hg h
def Mw (s:DS G) (pl sz:Nat) (z:List AV) (bytes:Nat) (x n:TV G) (c:TV G->DS G->Option R):Option R:=match x,n with
 | .raw v,.int k n=>(match v with
  | .bF=>if k= .i64 then (match tyC z with
   | some p=>if Nat.beq sz 1 then (Qx bytes n p.2).bind fun l=>if s.fits pl (.aQ .norm p.1 l) then c (.own pl) (s.dL pl (.aQ .norm p.1 l)) else none else none
   | none=>none) else none
  | _=>none)
 | _,_=>none
theorem PU {g:Ge G} (hg:g.Ok) {s:DS G} {pl sz qG:Nat} {z:List AV} {x n:TV G} {c:TV G->DS G->Option R} {r:R} (h:Mw s pl sz z qG x n c=some r):
 g7 g s (match x.av g s.ln,n.av g s.ln with
  | .bF,.int .i64 m=>if 0 < m/\m*qG<=2 ^ 40/\m<=2 ^ 40/\z.length=sz/\aW z=true then
   some (.own pl m.toNat 0 m.toNat,putObj (s.Hv g) pl (.live .norm sz (List.replicate m.toNat z))) else none
  | _,_=>none) c r:=by
 unfold Mw at h;split at h
 case h_2=>cases h
 rename_i v k n;split at h
 case h_2=>cases h
 split at h
 case isFalse=>cases h
 rename_i hk;subst hk;split at h
 case h_2=>cases h
 rename_i p hp;split at h
 case isFalse=>cases h
 rename_i hc;have e:=za3 hc;subst e;obtain ⟨l,h1,h2⟩:=bind_some h;split at h2
 case isFalse=>cases h2
 rename_i hf;unfold Qx at h1;split at h1
 case isFalse=>cases h1
 rename_i hb;injection h1 with h1;subst h1
 obtain ⟨e1,e2⟩:=MC (g:=g) hp;obtain ⟨k1,k2,k3⟩:=fq (g:=g) hf;refine ⟨_,_,?_,k1,k2,h2⟩;have e3:p.1.n g=1:=by
  have:=(cT hg p.1).len p.2;rw [<-e1] at this;omega
 have e4:aW z=true:=by rw [e1];exact (cT hg p.1).one p.2
 simp only [TV.av];rw [if_pos ⟨hb.1,hb.2.1,hb.2.2,e2,e4⟩,k3,jr (kK hf)];simp only [TO.len,zap,TO.av,e3,zbB,<-e1]
def ev (g:Ge G) (gl:Nat->List AV) (s:DS G) (pl:Nat) (op:RO) (c:TV G->DS G->Option R):Option R:=match op with
 | .Ho x=>c (s.rx gl x) s
 | .pick p a b=>(match s.rx gl p with | .bool p=>Md p (s.rx gl a) (s.rx gl b) fun v=>c v s | _=>none)
 | .box x=>UZ g s pl (s.rx gl x) c
 | .alloc z=>F0 s pl z c
 | .build z parts=>(match HT g (iI z) (parts.map fun p=>(p.1,p.2.1,s.rx gl p.2.2)) with | some l=>c (.agg l) s | none=>none)
 | .u0 sz z len parts=>Qz g s pl sz z len (parts.map fun p=>(p.1,s.rx gl p.2)) c
 | .load n ag a=>CX g s.H n ag (s.rx gl a) fun v=>c v s
 | .store n a x=>F1 g s n (s.rx gl a) (s.rx gl x) c
 | .bin op x y=>Ln op (s.rx gl x) (s.rx gl y) fun v=>c v s
 | .un op x=>unV op (s.rx gl x) fun v=>c v s
 | .Cz neg ks x y=>VC g neg ks (s.rx gl x) (s.rx gl y) fun v=>c v s
 | .Hp neg x y=>ZT neg (s.rx gl x) (s.rx gl y) fun v=>c v s
 | .AS neg x y=>UY s.H neg (s.rx gl x) (s.rx gl y) fun v=>c v s
 | .Hq neg x y=>ZU neg (s.rx gl x) (s.rx gl y) fun v=>c v s
 | .pJ x=>(match s.rx gl x with
  | .dO t o=>o.bind fun v=>c (.bR ((view g t v).cells g)) s
  | y=>(match T8 y with | some v=>c v s | none=>none))
 | .conv k x=>(match s.rx gl x with | .int _ n=>c (.int k (k.wrap n)) s | _=>none)
 | .Tj off n ag x=>(match s.rx gl x with | .agg l=>(match ny n ag l off with | some v=>c v s | none=>none) | _=>none)
 | .uZ off x=>(match FT off (s.rx gl x) with | some v=>c v s | none=>none)
 | .jd sz x i=>HE g s.H sz (s.rx gl x) (s.rx gl i) fun v=>c v s
 | .mm len sz x i=>Mf g s.H len sz (s.rx gl x) (s.rx gl i) fun v=>c v s
 | .nk len n ag x i=>Mg g len n ag (s.rx gl x) (s.rx gl i) fun v=>c v s
 | .oV x i=>Mh (s.rx gl x) (s.rx gl i) fun v=>c v s
 | .slc sz x lo hi=>VS g s sz (s.rx gl x) (lo.map (s.rx gl)) (hi.map (s.rx gl)) fun v=>c v s
 | .oW x lo hi=>Mi (s.rx gl x) (lo.map (s.rx gl)) (hi.map (s.rx gl)) fun v=>c v s
 | .k8 len sz x lo hi=>LH g s.H len sz (s.rx gl x) (lo.map (s.rx gl)) (hi.map (s.rx gl)) fun v=>c v s
 | .Qk f cap=>c (.fn f (cap.map (s.rx gl))) s
 | .Tk f l=>(match posOf (l.map (s.rx gl)) with | some q=>c (.raw (.eD f q)) s | none=>none)
 | .Hr sz z qG l m=>if LJ l m then U1 s pl sz z qG (s.rx gl l) c else none
 | .len st x=>VE s.H st (s.rx gl x) fun v=>c v s
 | .app sz qG x y=>QA g s sz qG (s.rx gl x) (s.rx gl y) c
 | .mn l=>(match l.map (s.rx gl) with | x::r=>(match Yg false x r with | some v=>c v s | none=>none) | []=>none)
 | .mx l=>(match l.map (s.rx gl) with | x::r=>(match Yg true x r with | some v=>c v s | none=>none) | []=>none)
 | .ext x i=>(match s.rx gl x with | .aY l=>(match l[i]? with | some v=>c v s | none=>none) | _=>none)
 | .Jr x=>(match s.rx gl x with | .int _ n=>c (.str (Utf8.encode n).data.toList) s | _=>none)
 | .Js=>if s.fits pl (.mg []) then c (.raw (.mp pl)) (s.dL pl (.mg [])) else none
 | .gY k z ok m x=>if ok then Mr s k [uX z] (s.rx gl m) (s.rx gl x) c else Ms s k z (s.rx gl m) (s.rx gl x) c
 | .gX k m x v=>(match k with | .str=>Mv s k (s.rx gl m) (s.rx gl x) (s.rx gl v) c | _=>Mt s k (s.rx gl m) (s.rx gl x) (s.rx gl v) c)
 | .jv m=>Mu s (s.rx gl m) c
 | .Fh x=>(match s.rx gl x with | .str a=>if s.fits pl (.yN a 0) then c (.raw (.qB pl)) (s.dL pl (.yN a 0)) else none | _=>none)
 | .uK x=>VR s (s.rx gl x) c
 | .FE x=>(match s.rx gl x with | .raw v=>(match v with | .bF=>c (.int .i64 0) s | _=>none) | _=>none)
 | .sH sz z qG x n=>Mw s pl sz z qG (s.rx gl x) (s.rx gl n) c
 | _=>none
theorem Uc {g:Ge G} (hg:g.Ok) {gl:Nat->List AV} {s:DS G} {pl:Nat} {op:RO} {c:TV G->DS G->Option R} {r:R} (h:ev g gl s pl op c=some r):op.kind≠ .call/\g7 g s (KF (ga gl (s.tm g)) pl op (s.Hv g)) c r:=by
 have P:∀ {op:RO} {w:TV G} {r:R},op.kind= .pure->cA (ga gl (s.tm g)) op=some (w.av g s.ln)->c w s=some r->op.kind≠ .call/\g7 g s (KF (ga gl (s.tm g)) pl op (s.Hv g)) c r:=by
  intro op w r hk he hc;refine ⟨by rw [hk];exact fun e=>(nomatch e),w,s,?_,rfl,rfl,hc⟩;simp only [KF,bW,hk,he]
 have Rd:∀ {op:RO} {w:TV G} {r:R},op.kind= .read->dS (ga gl (s.tm g)) (s.Hv g) op=some (w.av g s.ln)->c w s=some r->op.kind≠ .call/\g7 g s (KF (ga gl (s.tm g)) pl op (s.Hv g)) c r:=by
  intro op w r hk he hc;refine ⟨by rw [hk];exact fun e=>(nomatch e),w,s,?_,rfl,rfl,hc⟩;simp only [KF,bW,hk,he]
 have Wr:∀ {op:RO} {r:R},op.kind= .write->g7 g s (cP (ga gl (s.tm g)) (s.Hv g) pl op) c r->op.kind≠ .call/\g7 g s (KF (ga gl (s.tm g)) pl op (s.Hv g)) c r:=by
  intro op r hk he;refine ⟨by rw [hk];exact fun e=>(nomatch e),?_⟩;simp only [KF,bW,hk];exact he
 have rx:=DS.mX g gl s;have rxo:∀ o:Option RX,o.map (ga gl (s.tm g))=(o.map (s.rx gl)).map (TV.av g s.ln):=by
  intro o;cases o with
  | none=>rfl
  | some x=>simp [rx]
 cases op<;>dsimp only [ev] at h
 case Ho x=>exact P (op:= .Ho x) rfl (by simp only [cA,rx]) h
 case pick p a b=>
  split at h
  case h_2=>cases h
  rename_i q hq;obtain ⟨w,h1,h2⟩:=Ph (g:=g) (ln:=s.ln) h;refine P (w:=w) rfl ?_ h2;simp only [cA,rx,hq,TV.av];rw [h1];cases q<;>rfl
 case box x=>
  refine Wr rfl ?_;simp only [cP,rx];exact S7 hg h
 case alloc z=>
  refine Wr rfl ?_;simp only [cP];exact Kq h
 case build z parts=>
  split at h
  case h_2=>cases h
  rename_i l hl;have:=D5 (g:=g) (ln:=s.ln) hl;rw [gL,zb6] at this;refine P (w:= .agg l) rfl ?_ h;simp only [cA,rx];rw [show (parts.map fun x=>(match x with | (o,n,x)=>(o,n,(s.rx gl x).av g s.ln):Nat×Nat×AV))=parts.map ((fun p=>(p.1,p.2.1,p.2.2.av g s.ln)) ∘ fun p=>(p.1,p.2.1,s.rx gl p.2.2)) from rfl,this];rfl
 case u0 sz z len parts=>
  refine Wr rfl ?_;have:=I9 (g:=g) hg h;rw [zb6] at this;simp only [cP,rx];exact this
 case load n ag a=>
  obtain ⟨w,h1,h2⟩:=wT hg h;exact Rd rfl (by simp only [dS,rx];exact h1) h2
 case store n a x=>
  refine Wr rfl ?_;simp only [cP,rx];exact Kr hg h
 case bin op x y=>
  obtain ⟨w,h1,h2⟩:=SD (g:=g) (ln:=s.ln) h;exact P (w:=w) rfl (by simp only [cA,rx];exact h1) h2
 case un op x=>
  obtain ⟨w,h1,h2⟩:=Xj (g:=g) (ln:=s.ln) h;exact P (w:=w) rfl (by simp only [cA,rx];exact h1) h2
 case Cz neg ks x y=>
  obtain ⟨w,h1,h2⟩:=SG hg (ln:=s.ln) h;exact P (w:=w) rfl (by simp only [cA,rx];exact h1) h2
 case Hp neg x y=>
  unfold ZT at h;split at h
  case h_2=>cases h
  rename_i a b h1 h2;exact P (w:= .bool _) rfl (by simp only [cA,rx,h1,h2];rfl) h
 case AS neg x y=>
  obtain ⟨w,h1,h2⟩:=Ro (g:=g) h;exact Rd rfl (by simp only [dS,rx];exact h1) h2
 case Hq neg x y=>
  unfold ZU at h;split at h
  case h_2=>cases h
  rename_i hy;split at h
  case h_2=>cases h
  rename_i b hb;refine P (w:= .bool _) rfl ?_ h;simp only [cA,rx,hy,TV.av];show (match (s.rx gl x).av g s.ln,AV.gZ with
   | x,.gZ=>(match p6 x with | some b=>some (AV.bool (b !=neg)) | none=>none)
   | .gZ,y=>(match p6 y with | some b=>some (AV.bool (b !=neg)) | none=>none)
   | _,_=>none)=_
  dsimp only;rw [Pm hb]
 case pJ x=>
  split at h
  ·rename_i t o ho;obtain ⟨v,h1,h2⟩:=bind_some h;subst h1;refine P (w:= .bR ((view g t v).cells g)) rfl ?_ h2;simp only [cA,rx,ho];show pJ (AV.bR (enc g t v))=some (AV.bR (TV.aP g s.ln ((view g t v).cells g)));rw [gJ hg];rfl
  ·split at h
   case h_2=>cases h
   rename_i v hv;refine P (w:=v) rfl ?_ h;simp only [cA,rx];unfold T8 at hv;split at hv<;>first | (injection hv with hv;subst hv;rename_i e;rw [e];rfl) | cases hv
 case conv k x=>
  split at h
  case h_2=>cases h
  rename_i k' n hx;exact P (w:= .int k _) rfl (by simp only [cA,rx,hx,TV.av]) h
 case Tj off n ag x=>
  split at h
  case h_2=>cases h
  rename_i l hx;split at h
  case h_2=>cases h
  rename_i v hv;exact P (w:=v) rfl (by simp only [cA,rx,hx,TV.av];exact fK hv) h
 case uZ off x=>
  split at h
  case h_2=>cases h
  rename_i v hv;exact P (w:=v) rfl (by simp only [cA,rx];exact IZ hv) h
 case jd sz x i=>
  obtain ⟨w,h1,h2⟩:=Dj hg h;exact Rd rfl (by simp only [dS,rx];exact h1) h2
 case mm len sz x i=>
  obtain ⟨w,h1,h2⟩:=Pn (g:=g) (ln:=s.ln) h;exact P (w:=w) rfl (by simp only [cA,rx];exact h1) h2
 case nk len n ag x i=>
  obtain ⟨w,h1,h2⟩:=Po hg (ln:=s.ln) h;exact P (w:=w) rfl (by simp only [cA,rx];exact h1) h2
 case oV x i=>
  obtain ⟨w,h1,h2⟩:=Pp (g:=g) (ln:=s.ln) h;exact P (w:=w) rfl (by simp only [cA,rx];exact h1) h2
 case slc sz x lo hi=>
  obtain ⟨w,h1,h2⟩:=Ta hg (s:=s) h;exact Rd rfl (by simp only [dS,rx,rxo];exact h1) h2
 case oW x lo hi=>
  obtain ⟨w,h1,h2⟩:=Pq (g:=g) (ln:=s.ln) h;exact P (w:=w) rfl (by simp only [cA,rx,rxo];exact h1) h2
 case k8 len sz x lo hi=>
  obtain ⟨w,h1,h2⟩:=Ny hg h;exact Rd rfl (by simp only [dS,rx,rxo];exact h1) h2
 case Qk f cap=>exact P (w:= .fn f _) rfl (by simp only [cA,DS.gH];rfl) h
 case Tk f l=>
  split at h
  case h_2=>cases h
  rename_i q hq;exact P (w:= .raw (.eD f q)) rfl (by simp only [cA,DS.gH];rw [Er hq];rfl) h
 case Hr sz z qG l m=>
  split at h
  case isFalse=>cases h
  rename_i hs;have e:=Nz hs;subst e;refine Wr rfl ?_;simp only [cP,rx];exact S8 hg h
 case len st x=>
  obtain ⟨w,h1,h2⟩:=SK (g:=g) h;exact P (w:=w) rfl (by simp only [cA,rx];exact h1) h2
 case app sz qG x y=>
  refine Wr rfl ?_;simp only [cP,rx];exact I8 hg h
 case mn l=>
  split at h
  case h_2=>cases h
  rename_i x r' hl;split at h
  case h_2=>cases h
  rename_i v hv;refine P (w:=v) rfl ?_ h;simp only [cA,DS.gH,hl,TV.aP];exact Gu (mx:=false) hv
 case mx l=>
  split at h
  case h_2=>cases h
  rename_i x r' hl;split at h
  case h_2=>cases h
  rename_i v hv;refine P (w:=v) rfl ?_ h;simp only [cA,DS.gH,hl,TV.aP];exact Gu (mx:=true) hv
 case ext x i=>
  split at h
  case h_2=>cases h
  rename_i l hx;split at h
  case h_2=>cases h
  rename_i v hv;refine P (w:=v) rfl ?_ h;simp only [cA,rx,hx,TV.av,bV,zav,hv];rfl
 case Js=>
  split at h
  case isFalse=>cases h
  rename_i hf;obtain ⟨k1,k2,k3⟩:=fq (g:=g) hf;refine Wr rfl ⟨.raw (.mp pl),_,?_,k1,k2,h⟩;simp only [cP];rw [k3];rfl
 case gY k z ok m x=>
  cases ok with
  | true=>
   refine Wr rfl ?_;simp only [cP,rx];exact PM h
  | false=>
   refine Wr rfl ?_;simp only [cP,rx];exact PN h
 case gX k m x v=>
  refine Wr rfl ?_;simp only [cP,rx]
  cases k with
  | str=>exact PT h
  | _=>exact PR h
 case jv m=>
  refine Wr rfl ?_;simp only [cP,rx];exact PS h
 case Fh x=>
  split at h
  case h_2=>cases h
  rename_i a ha;split at h
  case isFalse=>cases h
  rename_i hf;obtain ⟨k1,k2,k3⟩:=fq (g:=g) hf;refine Wr rfl ⟨.raw (.qB pl),_,?_,k1,k2,h⟩;simp only [cP,rx,ha];rw [k3];rfl
 case uK x=>
  refine Wr rfl ?_;simp only [cP,rx];exact S9 h
 case Jr x=>
  split at h
  case h_2=>cases h
  rename_i k' n hx;exact P (w:= .str _) rfl (by simp only [cA,rx,hx,TV.av];rfl) h
 case FE x=>
  split at h
  case h_2=>cases h
  rename_i v hv;split at h
  case h_2=>cases h
  exact P (w:= .int .i64 0) rfl (by simp only [cA,rx,hv,TV.av]) h
 case sH sz z qG x n=>
  refine Wr rfl ?_;simp only [cP,rx];exact PU hg h
 all_goals cases h
end
end oe
