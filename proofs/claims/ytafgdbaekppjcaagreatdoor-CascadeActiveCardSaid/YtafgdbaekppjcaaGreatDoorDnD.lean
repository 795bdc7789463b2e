/- Typed states: every operation but calls is what the machine does. No condition. -/
import Derived.Test.YtafgdbaekppjcaaGreatDoorDnC
set_option linter.unusedSectionVars false
set_option linter.unusedVariables false
set_option linter.unusedSimpArgs false
namespace oZ
open Go hiding Obj mark
open Go.Pl Go.Am Go.Am.As
section
variable {G:Nat->Type} {R:Type}
def iG (g:Ge G) (s:DS G) (m:Option (AV×List Obj)) (c:TV G->DS G->Option R) (r:R):Prop:=
 ∃ (w:TV G) (s':DS G),m=some (w.av g s'.ln,s'.Hv g)/\s'.tm g=s.tm g/\s'.FR g=s.FR g/\c w s'=some r
theorem ju {s:DS G} {pl:Nat} (hp:pl<=s.H.length) (o:TO G):(s.eE pl o).ln pl=o.len:=by
 unfold DS.ln kg DS.eE;dsimp only;by_cases hl:pl < s.H.length
 ·rw [if_pos hl,zaY hl]
 ·have:pl=s.H.length:=by omega
  subst this;rw [if_neg hl,zav (by omega)];simp
theorem kD {s:DS G} {pl:Nat} {o:TO G} (h:s.fits pl o=true):pl<=s.H.length:=by
 unfold DS.fits at h;rw [za0] at h;exact zau h.1
theorem QZ {g:Ge G} (hg:g.Ok) {s:DS G} {pl:Nat} {v:TV G} {c:TV G->DS G->Option R} {r:R} (h:SU g s pl v c=some r):
 iG g s (if aV (v.av g s.ln).cells=true then some (.aA pl 1 0 0,putObj (s.Hv g) pl (.live .norm (v.av g s.ln).cells.length [(v.av g s.ln).cells])) else none) c r:=by
 have other:∀ {v:TV G},(if iB (v.cells g)&&s.fits pl (.box (v.cells g)) then c (.po pl 0) (s.eE pl (.box (v.cells g))) else none)=some r->iG g s (if aV (v.av g s.ln).cells=true then some (.aA pl 1 0 0,putObj (s.Hv g) pl (.live .norm (v.av g s.ln).cells.length [(v.av g s.ln).cells])) else none) c r:=by
  intro v h;split at h
  case isFalse=>cases h
  rename_i hc;rw [za0] at hc;obtain ⟨h1,h2,h3⟩:=fV (g:=g) hc.2;refine ⟨_,_,?_,h1,h2,h⟩;rw [dD,if_pos (ga g s.ln hc.1),h3];have e:(s.eE pl (.box (v.cells g))).ln=s.ln:=by
   have h4:=hc.2;unfold DS.fits at h4;rw [za0] at h4;exact xh (kD hc.2) rfl (by simpa using h4.2)
  rw [e,dH];rfl
 unfold SU at h;split at h
 ·rename_i n t a;split at h
  case isFalse=>cases h
  rename_i hc;obtain ⟨h1,h2,h3⟩:=fV (g:=g) hc;refine ⟨_,_,?_,h1,h2,h⟩;have e:(TV.av g s.ln (.arr n t a)).cells=(List.map (enc g t) a.1).flatten:=rfl;have e1:aV (List.map (enc g t) a.1).flatten=true:=(c6 hg (.arr n t)).one a;rw [e,if_pos e1,h3,rD hg,a.2];rfl
 ·exact other h
theorem I7 {g:Ge G} {s:DS G} {pl:Nat} {z:List AV} {c:TV G->DS G->Option R} {r:R} (h:EZ s pl z c=some r):
 iG g s (if aV z=true then some (.aA pl 1 0 0,putObj (s.Hv g) pl (.live .norm z.length [z])) else none) c r:=by
 unfold EZ at h;split at h
 case isFalse=>cases h
 rename_i hc;rw [za0] at hc;obtain ⟨h1,h2,h3⟩:=fV (g:=g) hc.2;refine ⟨_,_,?_,h1,h2,h⟩;rw [if_pos hc.1,h3,DX];rfl
theorem Ny (g:Ge G) (ln:Nat->Nat) (n:Nat) (z:List AV):TV.dc g ln (List.replicate n (iK z))=List.replicate n z:=by
 rw [br,zbs,gP]
theorem HG {g:Ge G} (hg:g.Ok) {s:DS G} {pl sz:Nat} {z:List AV} {len:Nat} {parts:List (Nat×TV G)} {c:TV G->DS G->Option R} {r:R} (h:Of g s pl sz z len parts c=some r):
 iG g s (if z.length=sz/\aV z=true/\len*sz<=2 ^ 24 then
  (match kj sz (List.replicate len z) (parts.map fun p=>(p.1,p.2.av g s.ln)) with
   | some es=>some (.own pl len 0 len,putObj (s.Hv g) pl (.live .norm sz es))
   | none=>none) else none) c r:=by
 unfold Of at h;split at h
 case isFalse=>cases h
 rename_i hc;simp only [za0] at hc;split at h
 case h_2=>cases h
 rename_i es sk;split at h
 case isFalse=>cases h
 rename_i hf;obtain ⟨h1,h2,h3⟩:=fV (g:=g) hf;obtain ⟨h4,h5⟩:=zB (g:=g) (ln:=s.ln) sk;rw [Ny] at h4;rw [zbN] at h5;refine ⟨_,_,?_,h1,h2,h⟩;rw [if_pos ⟨za3 hc.1,hc.2.1,zau hc.2.2⟩,h4,h3];have fin:(uJ g sz es).len=es.length->(uJ g sz es).av g (s.eE pl (uJ g sz es)).ln (s.FR g)= .live .norm sz (TV.dc g s.ln es)->some (AV.own pl len 0 len,putObj (s.Hv g) pl (.live .norm sz (TV.dc g s.ln es)))=some (TV.av g (s.eE pl (uJ g sz es)).ln (.own pl),putObj (s.Hv g) pl ((uJ g sz es).av g (s.eE pl (uJ g sz es)).ln (s.FR g))):=by
  intro k1 k2;have e:(s.eE pl (uJ g sz es)).ln pl=len:=by rw [ju (kD hf),k1];exact h5
  show _=some (AV.own pl (DS.ln _ pl) 0 (DS.ln _ pl),_);rw [e,k2]
 apply fin
 ·rcases GP hg sz es with h | ⟨t,l,h,_,h6,_⟩
  ·rw [h];rfl
  ·rw [h];exact h6
 ·rcases GP hg sz es with h | ⟨t,l,h,h7,h6,h8⟩
  ·rw [h] at hf ⊢;have k:=BD (kD hf) (TO.cX .norm sz es);unfold DS.fits at hf;simp only [za0] at hf;show Obj.live .norm sz _=_;rw [gm k es hf.2.2]
  ·rw [h,h8,<-h7];rfl
theorem fG {g:Ge G} {s:DS G} {id:Nat} {o o':TO G} (hid:s.H[id]?=some o) (hl:o'.len=o.len):(s.iT id o').ln=s.ln/\(s.iT id o').tm g=s.tm g/\(s.iT id o').FR g=s.FR g/\(s.iT id o').Hv g=(s.Hv g).set id (o'.av g s.ln (s.FR g)):=by
 have h:o'.len=s.ln id:=by unfold DS.ln kg;rw [hid];exact hl
 exact ⟨vE h,Vt h,HM h,Q0 h⟩
theorem yl {α:Type} {C:α->List AV} {n:Nat} (hC:∀ a,(C a).length=n):∀ (l:List α) (k:Nat) (w:α),k < l.length->putAt (l.map C).flatten (k*n) (C w)=((l.set k w).map C).flatten:=by
 have go:∀ (xs a b d:List AV),b.length=xs.length->putAt (a++(b++d)) a.length xs=a++(xs++d):=by
  intro xs;induction xs with
  | nil=>intro a b d hl;simp at hl;simp [putAt,hl]
  | cons x xs ih=>
   intro a b d hl
   cases b with
   | nil=>simp at hl
   | cons y b=>
    have:=ih (a++[x]) b d (by simpa using hl);simp only [za9,zag,zaz,zbq] at this;simp only [putAt];rw [show (a++(y::b++d)).set a.length x=a++x::(b++d) by simp];rw [this];simp
 have key:∀ (l:List α) (k:Nat) (w:α) (a:List AV),k < l.length->putAt (a++(l.map C).flatten) (a.length+k*n) (C w)=a++((l.set k w).map C).flatten:=by
  intro l;induction l with
  | nil=>intro k w a hk;simp at hk
  | cons x l ih=>
   intro k w a hk
   cases k with
   | zero=>
    simp only [za5,zaS,zb8,Nat.zero_mul,zbt];exact go _ _ _ _ (by rw [hC,hC])
   | succ k=>
    simp only [za5,zaS,List.set_cons_succ];rw [<-zaz,<-zaz,<-ih k w (a++C x) (by simpa using hk)];congr 1;rw [za9,hC,Nat.succ_mul];omega
 intro l k w hk;have:=key l k w [] hk;simpa using this
theorem lB {s:DS G} {id:Nat} {fl:Fl} {t:Ty} {l:List (t.D G)} (hid:s.H[id]?=some (.aL fl t l)):s.ln id=l.length:=by unfold DS.ln kg;rw [hid];rfl
theorem I8 {g:Ge G} (hg:g.Ok) {s:DS G} {n:Nat} {x v:TV G} {c:TV G->DS G->Option R} {r:R} (h:E1 g s n x v c=some r):
 iG g s (match storeAt (s.Hv g) n (x.av g s.ln) (v.av g s.ln) with | some H'=>some (.bl [],H') | none=>none) c r:=by
 unfold E1 at h;split at h
 ·rename_i id o;split at h
  ·rename_i cs hid;split at h
   case isFalse=>cases h
   rename_i hc;simp only [za0] at hc;have e1:=za3 hc.1;have e2:=zau hc.2.1;obtain ⟨k1,k2,k3,k4⟩:=fG (g:=g) (o':= .box (mo cs o (v.cells g))) hid rfl;refine ⟨_,_,?_,k2,k3,h⟩;rw [k1,k4];simp only [TV.av,storeAt,aH,bw hid,TO.av,zag,cD,dD,dH,e1];rw [if_pos ⟨trivial,trivial,e2,ga g s.ln hc.2.2,rfl⟩];simp only [zas,zb8,yd,oK]
  ·rename_i m t a hid;split at h
   ·rename_i m' t' a';split at h
    case isFalse=>cases h
    rename_i hh;obtain ⟨rfl,rfl⟩:=hh;split at h
    case isFalse=>cases h
    rename_i hc;simp only [za0] at hc;have e1:=za3 hc.1;have e2:=za3 hc.2;subst e1;subst e2;obtain ⟨k1,k2,k3,k4⟩:=fG (g:=g) (o':= .arr m' t' a') hid rfl;refine ⟨_,_,?_,k2,k3,h⟩;rw [k1,k4];have e:(TV.av g s.ln (.arr m' t' a')).cells=(List.map (enc g t') a'.1).flatten:=rfl;have hl:(List.map (enc g t') a'.1).flatten.length=m'*t'.n g:=by rw [rD hg,a'.2]
    have Em:(List.map (enc g t') a.1).flatten.length=m'*t'.n g:=by rw [rD hg,a.2]
    have e1:aV (List.map (enc g t') a'.1).flatten=true:=(c6 hg (.arr m' t')).one a';rw [show (TV.po id 0:TV G).av g s.ln= .aA id 1 0 0 from rfl];simp only [storeAt,aH,bw hid,TO.av,zag,cD,e,hl];rw [if_pos ⟨trivial,trivial,by omega,e1,rfl⟩];simp only [zas,zb8];have go:∀ (xs b a:List AV),b.length=xs.length->putAt (a++b) a.length xs=a++xs:=by
     intro xs;induction xs with
     | nil=>intro b a hl;simp at hl;simp [putAt,hl]
     | cons x xs ih=>
      intro b a hl
      cases b with
      | nil=>simp at hl
      | cons y b=>
       have:=ih b (a++[x]) (by simpa using hl);simp only [za9,zag,zaz,zbq] at this;simp only [putAt];rw [show (a++y::b).set a.length x=a++x::b by simp,this]
    have:=go (List.map (enc g t') a'.1).flatten (List.map (enc g t') a.1).flatten [] (by rw [hl,Em]);simp only [zc3,List.length_nil] at this;rw [this];rfl
   ·split at h
    case isFalse=>cases h
    rename_i hc;simp only [za0] at hc;have e1:=za3 hc.1;have e2:=za3 hc.2;subst e2;split at h
    case h_2=>cases h
    rename_i w hw;obtain ⟨u,h1,h2⟩:=bind_some h;obtain ⟨h3,h4,h5⟩:=oi h1;obtain ⟨k1,k2,k3,k4⟩:=fG (g:=g) (o':= .arr m t (a.put o w)) hid rfl;refine ⟨_,_,?_,k2,k3,h2⟩;rw [k1,k4];have e3:(v.av g s.ln).cells=enc g t w:=by
     have:=BE hg (ln:=s.ln) hw;rw [gb hw] at this;rw [dD];exact this
    simp only [TV.av,storeAt,aH,bw hid,TO.av,zag,cD,e3,(c6 hg t).len,(c6 hg t).one,e1,zbH];rw [if_pos ⟨trivial,trivial,by omega,trivial,rfl⟩];simp only [zas,zb8];have:=yl (c6 hg t).len a.1 o w (by rw [a.2];omega);rw [e1,zbH] at this;rw [this];rfl
  ·cases h
 ·rename_i id i o;split at h
  case h_2=>cases h
  rename_i fl t l hid;split at h
  case isFalse=>cases h
  rename_i hc;simp only [za0] at hc;have e1:=za3 hc.2.1;have e2:=zau hc.2.2.1;obtain ⟨u,h1,h2⟩:=bind_some h;obtain ⟨h3,h4,h5⟩:=oh h1;split at h2
  case h_2=>cases h2
  rename_i w hw;obtain ⟨k1,k2,k3,k4⟩:=fG (g:=g) (o':= .aL fl t (l.set i.toNat w)) hid (by simp [TO.len]);refine ⟨_,_,?_,k2,k3,h2⟩;rw [k1,k4];have e3:putAt (enc g t u) o (TV.aS g s.ln (v.cells g))=enc g t w:=by
   have:=BE hg (ln:=s.ln) hw;rw [gb hw,oK,gO hg] at this;exact this
  simp only [TV.av,storeAt,aH,bw hid,TO.av,zah,cD,dD,dH,e1];rw [if_pos ⟨lB hid,trivial,e2,ga g s.ln hc.2.2.2,hc.1⟩];simp only [zay,h5,zaL,e3,zbJ]
 ·rename_i id sz i o;split at h
  case h_2=>cases h
  rename_i m t a hid;split at h
  case isFalse=>cases h
  rename_i hc;simp only [za0] at hc;have e1:=za3 hc.1;have e2:=za3 hc.2.1;have e4:=za3 hc.2.2;subst e1;subst e2;subst e4;split at h
  case h_2=>cases h
  rename_i w hw;obtain ⟨u,h1,h2⟩:=bind_some h;obtain ⟨h3,h4,h5⟩:=oi h1;obtain ⟨k1,k2,k3,k4⟩:=fG (g:=g) (o':= .arr m t (a.put i.toNat w)) hid rfl;refine ⟨_,_,?_,k2,k3,h2⟩;rw [k1,k4];have e3:(v.av g s.ln).cells=enc g t w:=by
   have:=BE hg (ln:=s.ln) hw;rw [gb hw] at this;rw [dD];exact this
  have hk:i.toNat < m:=by omega
  have hm:i.toNat*t.n g+t.n g<=m*t.n g:=by
   rw [<-Nat.succ_mul];exact zae _ hk
  simp only [TV.av,storeAt,aH,bw hid,TO.av,zag,cD,e3,(c6 hg t).len,(c6 hg t).one,zbt];rw [if_pos ⟨trivial,trivial,hm,trivial,rfl⟩];simp only [zas,zb8];rw [yl (c6 hg t).len a.1 i.toNat w (by rw [a.2];exact hk)];rfl
 ·cases h
theorem qY {g:Ge G} {s:DS G} {id:Nat} {o o':TO G} (hid:s.H[id]?=some o):(s.ec id o').ln id=o'.len/\(s.ec id o').tm g=s.tm g/\(s.ec id o').FR g=s.FR g/\(s.ec id o').Hv g=(s.Hv g).set id (o'.av g (s.ec id o').ln (s.FR g)):=by
 refine ⟨?_,Vu g s id o',HN g s id o',Q1 g s id o'⟩;have hl:=(zaa.1 hid).1;unfold DS.ln kg DS.ec;dsimp only;rw [zaY (by simpa using hl)]
theorem lQ {α:Type} {qC:Nat} {l m v:List α} (h:cF qC l m=some v):((l.length+m.length)*qC<=2 ^ 40/\l.length+m.length<=2 ^ 40)/\v=l++m:=by
 unfold cF at h;split at h
 ·rename_i hc;injection h with h;exact ⟨hc,h.symm⟩
 ·cases h
theorem FX {H:List Obj} {pl sz qC id:Nat} {fl:Fl} {es new:List (List AV)} {x:AV} (hH:H[id]?=some (.live fl sz es)) (hx:dI H x=some new) (ha:(new.all fun e=>e.length==sz&&aV e)=true) (hf:fl.uf=true)
 (hb:(es.length+new.length)*qC<=2 ^ 40/\es.length+new.length<=2 ^ 40):Am.append H pl sz qC (.own id es.length 0 es.length) x=some (.own id (es.length+new.length) 0 (es.length+new.length),H.set id (.live fl sz (es++new))):=by
 simp only [Am.append,hx,ha,if_true,aH,hH,cD,hf];rw [if_pos ⟨trivial,trivial,trivial,trivial,hb.1,hb.2⟩]
theorem HF {g:Ge G} (hg:g.Ok) {s:DS G} {pl sz qC:Nat} {x y:TV G} {c:TV G->DS G->Option R} {r:R} (h:Og g s sz qC x y c=some r):
 iG g s (Am.append (s.Hv g) pl sz qC (x.av g s.ln) (y.av g s.ln)) c r:=by
 unfold Og at h;split at h
 case h_2=>cases h
 rename_i id;have fin:∀ {o o':TO G} {fl:Fl} {es new:List (List AV)} {r:R},s.H[id]?=some o->o.av g s.ln (s.FR g)= .live fl sz es->dI (s.Hv g) (y.av g s.ln)=some new->(new.all fun e=>e.length==sz&&aV e)=true->fl.uf=true->
  (es.length+new.length)*qC<=2 ^ 40/\es.length+new.length<=2 ^ 40->o.len=es.length->o'.len=es.length+new.length->o'.av g (s.ec id o').ln (s.FR g)= .live fl sz (es++new)->c (.own id) (s.ec id o')=some r->iG g s (Am.append (s.Hv g) pl sz qC ((TV.own id:TV G).av g s.ln) (y.av g s.ln)) c r:=by
  intro o o' fl es new r hid h1 h2 h3 h4 h5 h6 h7 h8 h9;obtain ⟨k1,k2,k3,k4⟩:=qY (g:=g) (o':=o') hid;have e:s.ln id=es.length:=by unfold DS.ln kg;rw [hid];exact h6
  refine ⟨_,_,?_,k2,k3,h9⟩;have hH:(s.Hv g)[id]?=some (.live fl sz es):=by rw [bw hid,h1]
  rw [show (TV.own id:TV G).av g s.ln= .own id (s.ln id) 0 (s.ln id) from rfl,e,FX hH h2 h3 h4 h5];rw [show (TV.own id:TV G).av g (s.ec id o').ln= .own id ((s.ec id o').ln id) 0 ((s.ec id o').ln id) from rfl,k1,k4,h7,h8]
 split at h
 ·rename_i fl t l u m hid hy;split at h
  case isFalse=>cases h
  rename_i e;subst e;split at h
  case isFalse=>cases h
  rename_i hc;simp only [za0] at hc;have e1:=za3 hc.2;obtain ⟨v,h1,h2⟩:=bind_some h;obtain ⟨h3,rfl⟩:=lQ h1;refine fin hid (by rw [<-e1];rfl) (lM hy) (by rw [<-e1];exact SW hg m) hc.1 (by simpa [LK.av] using h3) (by simp [TO.len]) (by simp [TO.len,LK.av]) ?_ h2;simp only [TO.av,e1,LK.av,zal]
 ·rename_i fl t l es hid hy;split at h
  case isFalse=>cases h
  rename_i hc;simp only [za0] at hc;have e1:=za3 hc.2;split at h
  case h_2=>
   split at h
   case h_2=>cases h
   rename_i m hm;split at h
   case isFalse=>cases h
   rename_i hok;rw [za0] at hok;obtain ⟨v,h1,h2⟩:=bind_some h;obtain ⟨h3,_⟩:=lQ h1;have hml:m.length=es.length:=by
    have:=(iN hg s.ln hm).2;rw [zah] at this;exact this.symm
   have hy':=lM (g:=g) hy;refine fin hid (by rw [<-e1];rfl) hy' (td hok.1) hc.1 (by rw [hml] at h3;simpa [LK.av,br] using h3) (by simp [TO.len]) (by simp [TO.len,LK.av,br]) ?_ h2;simp only [TO.av,e1,LK.av];rw [gm (rA s id _) _ hok.2]
  rename_i m hm;obtain ⟨v,h1,h2⟩:=bind_some h;obtain ⟨h3,rfl⟩:=lQ h1;obtain ⟨h4,h5⟩:=iN hg s.ln hm;have hy':=lM (g:=g) hy;rw [show (LK.raw es).av g s.ln=TV.dc g s.ln es from rfl,h4] at hy';refine fin hid (by rw [<-e1];rfl) hy' (by rw [<-e1];exact SW hg m) hc.1 (by simpa using h3) (by simp [TO.len]) (by simp [TO.len]) ?_ h2;simp only [TO.av,e1,zal]
 ·rename_i fl sz' es t m hid hy;split at h
  case isFalse=>cases h
  rename_i hc;simp only [za0] at hc;have e1:=za3 hc.2.1;have e2:=za3 hc.2.2;subst e2;split at h
  case h_2=>cases h
  rename_i l hl;obtain ⟨v,h1,h2⟩:=bind_some h;obtain ⟨h3,rfl⟩:=lQ h1;obtain ⟨h4,h5⟩:=iN hg s.ln hl;refine fin hid (es:=l.map (enc g t)) (by simp only [TO.av,h4]) (lM hy) (by rw [<-e1];exact SW hg m) hc.1 (by simpa [LK.av] using h3) (by simp [TO.len,h5]) (by simp [TO.len,LK.av]) ?_ h2;simp only [TO.av,e1,LK.av,zal]
 ·rename_i fl sz' es es' hid hy;split at h
  case isFalse=>cases h
  rename_i hc;simp only [za0] at hc;have e2:=za3 hc.2.2;subst e2;obtain ⟨v,h1,h2⟩:=bind_some h;obtain ⟨h3,rfl⟩:=lQ h1;split at h2
  case isFalse=>cases h2
  rename_i hn;refine fin hid (es:=TV.dc g s.ln es) rfl (lM hy) (td hc.2.1) hc.1 (by simpa [LK.av,br] using h3) (by simp [TO.len,br]) (by simp [TO.len,LK.av,br]) ?_ h2;simp only [TO.av,LK.av];rw [gm (rA s id _) _ hn,br,br,br,zal]
 ·cases h
theorem Q2 {g:Ge G} (hg:g.Ok) {s:DS G} {pl sz qC:Nat} {z:List AV} {n:TV G} {c:TV G->DS G->Option R} {r:R} (h:SX s pl sz z qC n c=some r):
 iG g s (match n.av g s.ln,n.av g s.ln with
  | .int .i64 n,.int .i64 m=>if n=m/\0<=n/\n*qC<=2 ^ 40/\n<=2 ^ 40/\z.length=sz/\aV z=true then
   some (.own pl n.toNat 0 n.toNat,putObj (s.Hv g) pl (.live .norm sz (List.replicate n.toNat z))) else none
  | _,_=>none) c r:=by
 unfold SX at h;split at h
 case h_2=>cases h
 rename_i n;split at h
 case h_2=>cases h
 rename_i p hp;split at h
 case isFalse=>cases h
 rename_i hc;have e:=za3 hc;subst e;obtain ⟨l,h1,h2⟩:=bind_some h;split at h2
 case isFalse=>cases h2
 rename_i hf;unfold sj at h1;split at h1
 case isFalse=>cases h1
 rename_i hb;injection h1 with h1;subst h1
 obtain ⟨e1,e2⟩:=K3 (g:=g) hp;obtain ⟨k1,k2,k3⟩:=fV (g:=g) hf;refine ⟨_,_,?_,k1,k2,h2⟩;have e3:p.1.n g=1:=by
  have:=(c6 hg p.1).len p.2;rw [<-e1] at this;omega
 have e4:aV z=true:=by rw [e1];exact (c6 hg p.1).one p.2
 simp only [TV.av];rw [if_pos ⟨trivial,hb.1,hb.2.1,hb.2.2,e2,e4⟩,k3,ju (kD hf)];simp only [TO.len,zbN,TO.av,e3,zbs,<-e1]
def posOf:List (TV G)->Option (List AV)
 | []=>some []
 | .po id o::r=>(match posOf r with | some l=>some (.aA id 1 0 o::l) | none=>none)
 | _::_=>none
theorem DM {g:Ge G} {ln:Nat->Nat}:∀ {l:List (TV G)} {q:List AV},posOf l=some q->TV.aS g ln l=q
 | [],q,h=>by cases h;rfl
 | x::r,q,h=>by
  unfold posOf at h;split at h
  ·rename_i e;cases e
  ·rename_i id o r' e;injection e with e1 e2
   subst e1;subst e2;split at h
   case h_2=>cases h
   rename_i m hm;injection h with h;subst h
   rw [TV.aS,DM hm];rfl
  ·cases h
theorem tW {x:List UInt8}:∀ (l:List (List UInt8×Int)) (i:Nat),(F5 x l=none/\nx .str (.str x) i (l.map fun p=>(.str p.1,.int .i64 p.2))=some none/\∀ v,Eu x v l=l++[(x,v)])\/
 ∃ (j:Nat) (n:Int),F5 x l=some n/\nx .str (.str x) i (l.map fun p=>(.str p.1,.int .i64 p.2))=some (some (i+j,.int .i64 n))/\∀ v,Eu x v l=l.set j (x,v)
 | [],i=> .inl ⟨rfl,rfl,fun _=>rfl⟩
 | p::r,i=>by
  by_cases h:x=p.1
  ·refine .inr ⟨0,p.2,by rw [F5,if_pos h],?_,fun v=>by rw [Eu,if_pos h];rfl⟩;simp only [za5,nx,eI,h,beq_self_eq_true,zbt]
  ·have hb:(x==p.1)=false:=by simpa using h
   rcases tW r (i+1) with ⟨h1,h2,h3⟩ | ⟨j,n,h1,h2,h3⟩
   ·refine .inl ⟨by rw [F5,if_neg h,h1],?_,fun v=>by rw [Eu,if_neg h,h3];rfl⟩;simp only [za5,nx,eI,hb,h2]
   ·refine .inr ⟨j+1,n,by rw [F5,if_neg h,h1],?_,fun v=>by rw [Eu,if_neg h,h3];rfl⟩;simp only [za5,nx,eI,hb,h2];rw [show i+1+j=i+(j+1) by omega]
def KQ (s:DS G) (k:CK) (z:List (TV G)) (m x:TV G) (c:TV G->DS G->Option R):Option R:=match m,x with
 | .raw v,.str a=>(match v with
  | .mp id=>(match s.H[id]? with
   | some (.mT l)=>(match k with
    | .str=>cond (F5 a l).isSome (c (.bl [.int .i64 ((F5 a l).getD 0),.bool true]) s) (c (.bl (z++[.bool false])) s)
    | _=>none)
   | _=>none)
  | _=>none)
 | _,_=>none
theorem Nz {g:Ge G} {s:DS G} {k:CK} {z:AV} {m x:TV G} {c:TV G->DS G->Option R} {r:R} (h:KQ s k [uQ z] m x c=some r):
 iG g s (match iV (s.Hv g) k z true (m.av g s.ln) (x.av g s.ln) with | some v=>some (v,s.Hv g) | none=>none) c r:=by
 unfold KQ at h;split at h
 case h_2=>cases h
 rename_i v a;split at h
 case h_2=>cases h
 rename_i id;split at h
 case h_2=>cases h
 rename_i l hid;split at h
 case h_2=>cases h
 have hH:jC (s.Hv g) id=some (l.map fun p=>(.str p.1,.int .i64 p.2)):=by unfold jC;rw [bw hid];rfl
 have e:iV (s.Hv g) .str z true ((TV.raw (.mp id):TV G).av g s.ln) ((TV.str a:TV G).av g s.ln)=some (match F5 a l with | some n=> .bl [.int .i64 n,.bool true] | none=> .bl [z,.bool false]):=by
  show iV (s.Hv g) .str z true (.mp id) (.str a)=_;unfold iV entries;dsimp only;rw [hH];dsimp only;rcases tW (x:=a) l 0 with ⟨h1,h2,_⟩ | ⟨j,n,h1,h2,_⟩
  ·rw [h1,h2];rfl
  ·rw [h1,h2];rfl
 rw [e]
 cases hq:F5 a l with
 | none=>
  rw [hq] at h;refine ⟨.bl [uQ z,.bool false],s,?_,rfl,rfl,h⟩;show _=some (AV.bl [_,_],_);rw [vF];rfl
 | some n=>
  rw [hq] at h;exact ⟨.bl [.int .i64 n,.bool true],s,rfl,rfl,rfl,h⟩
def KR (s:DS G) (m:TV G) (c:TV G->DS G->Option R):Option R:=match m with
 | .raw v=>(match v with
  | .mp id=>(match s.H[id]? with
   | some (.mT l)=>c (.int .i64 (l.length:Int)) s
   | _=>none)
  | _=>none)
 | _=>none
theorem NA {g:Ge G} {s:DS G} {m:TV G} {c:TV G->DS G->Option R} {r:R} (h:KR s m c=some r):
 iG g s (match jx (s.Hv g) (m.av g s.ln) with | some v=>some (v,s.Hv g) | none=>none) c r:=by
 unfold KR at h;split at h
 case h_2=>cases h
 rename_i v;split at h
 case h_2=>cases h
 rename_i id;split at h
 case h_2=>cases h
 rename_i l hid;have hH:jC (s.Hv g) id=some (l.map fun p=>(.str p.1,.int .i64 p.2)):=by unfold jC;rw [bw hid];rfl
 refine ⟨.int .i64 (l.length:Int),s,?_,rfl,rfl,h⟩;show (match jx (s.Hv g) (.mp id) with | some v=>some (v,s.Hv g) | none=>none)=_;unfold jx entries;dsimp only;rw [hH];dsimp only;rw [zah];rfl
def KS (s:DS G) (k:CK) (m x v:TV G) (c:TV G->DS G->Option R):Option R:=match m,x,v with
 | .raw w,.str a,.int kd n=>(match w with
  | .mp id=>(match s.H[id]? with
   | some (.mT l)=>(match k with
    | .str=>if kd= .i64 then c (.raw (.bl [])) (s.iT id (.mT (Eu a n l))) else none
    | _=>none)
   | _=>none)
  | _=>none)
 | _,_,_=>none
theorem NB {g:Ge G} {s:DS G} {k:CK} {m x v:TV G} {c:TV G->DS G->Option R} {r:R} (h:KS s k m x v c=some r):
 iG g s (match iU (s.Hv g) k (m.av g s.ln) (x.av g s.ln) (v.av g s.ln) with | some H'=>some (.bl [],H') | none=>none) c r:=by
 unfold KS at h;split at h
 case h_2=>cases h
 rename_i w a kd n;split at h
 case h_2=>cases h
 rename_i id;split at h
 case h_2=>cases h
 rename_i l hid;split at h
 case h_2=>cases h
 split at h
 case isFalse=>cases h
 rename_i hk;subst hk;obtain ⟨k1,k2,k3,k4⟩:=fG (g:=g) (o':= .mT (Eu a n l)) hid rfl;have hH:jC (s.Hv g) id=some (l.map fun p=>(.str p.1,.int .i64 p.2)):=by unfold jC;rw [bw hid];rfl
 refine ⟨.raw (.bl []),_,?_,k2,k3,h⟩;show (match iU (s.Hv g) .str (.mp id) (.str a) (.int .i64 n) with | some H'=>some (.bl [],H') | none=>none)=some (AV.bl [],_);rw [k4];unfold iU;dsimp only;rw [hH];dsimp only;rcases tW (x:=a) l 0 with ⟨h1,h2,h3⟩ | ⟨j,q,h1,h2,h3⟩
 ·rw [h2];dsimp only;rw [if_pos (by simp only [eI];rfl),h3 n];show some (AV.bl [],(s.Hv g).set id (.mp _))=some (AV.bl [],(s.Hv g).set id (.mp ((l++[(a,n)]).map _)));rw [zal];rfl
 ·rw [h2];dsimp only;rw [h3 n];show some (AV.bl [],(s.Hv g).set id (.mp _))=some (AV.bl [],(s.Hv g).set id (.mp ((l.set j (a,n)).map _)));rw [zbJ,zaD]
def TS (s:DS G) (x:TV G) (c:TV G->DS G->Option R):Option R:=match x with
 | .raw w=>(match w with
  | .qy id=>(match s.H[id]? with
   | some (.yE a p)=>cond (Nat.blt p.toNat a.length) (c (.bl [.bool true,.int .i64 (p.toNat:Int),.int .i32 (sw a p).1]) (s.iT id (.yE a (sw a p).2))) (c (.bl [.bool false]) s)
   | _=>none)
  | _=>none)
 | _=>none
theorem Q3 {g:Ge G} {s:DS G} {x:TV G} {c:TV G->DS G->Option R} {r:R} (h:TS s x c=some r):
 iG g s (uH (s.Hv g) (x.av g s.ln)) c r:=by
 unfold TS at h;split at h
 case h_2=>cases h
 rename_i w;split at h
 case h_2=>cases h
 rename_i id;split at h
 case h_2=>cases h
 rename_i a p hid;have hH:(s.Hv g)[id]?=some (.it a p.toNat):=bw hid;have e:uH (s.Hv g) ((TV.raw (.qy id):TV G).av g s.ln)=if p.toNat < a.length then some (.bl [.bool true,.int .i64 (p.toNat:Int),.int .i32 (sw a p).1],(s.Hv g).set id (.it a (sw a p).2.toNat)) else some (.bl [.bool false],s.Hv g):=by
  show uH (s.Hv g) (.qy id)=_;unfold uH;dsimp only;rw [hH];rfl
 rw [e]
 cases hb:Nat.blt p.toNat a.length with
 | true=>
  rw [hb] at h;have hlt:p.toNat < a.length:=by simpa [zbS] using hb
  obtain ⟨k1,k2,k3,k4⟩:=fG (g:=g) (o':= .yE a (sw a p).2) hid rfl;refine ⟨.bl [.bool true,.int .i64 (p.toNat:Int),.int .i32 (sw a p).1],_,?_,k2,k3,h⟩;rw [if_pos hlt,k4];rfl
 | false=>
  rw [hb] at h;have hlt:¬ p.toNat < a.length:=by
   intro hc;rw [show Nat.blt p.toNat a.length=true by simpa [zbS] using hc] at hb
   cases hb
  refine ⟨.bl [.bool false],s,?_,rfl,rfl,h⟩;rw [if_neg hlt];rfl
def X3 (g:Ge G) (H:List (TO G)) (sz id:Nat) (lo hi:Option (TV G)) (c:TV G->Option R):Option R:=match lo,hi with
 | none,some h=>(match h with
  | .int _ n=>(match H[id]? with
   | some (.aL fl u l)=>if Nat.beq (u.n g) sz&&decide (n=0) then c (.raw (.own id l.length 0 0)) else none
   | _=>none)
  | _=>none)
 | _,_=>none
def TT (g:Ge G) (s:DS G) (sz:Nat) (x:TV G) (lo hi:Option (TV G)) (c:TV G->Option R):Option R:=match x with
 | .own id=>X3 g s.H sz id lo hi c
 | .raw v=>(match v with
  | .bD=>(match lo,hi with
   | none,some h=>(match h with | .int _ n=>if n=0 then c (.raw .bD) else none | _=>none)
   | _,_=>none)
  | _=>none)
 | x=>SQ g sz x lo hi c
theorem Q4 {g:Ge G} (hg:g.Ok) {s:DS G} {sz:Nat} {x:TV G} {lo hi:Option (TV G)} {c:TV G->Option R} {r:R} (h:TT g s sz x lo hi c=some r):∃ w:TV G,slc (s.Hv g) sz (x.av g s.ln) (lo.map (TV.av g s.ln)) (hi.map (TV.av g s.ln))=some (w.av g s.ln)/\c w=some r:=by
 unfold TT at h;split at h
 ·rename_i id;unfold X3 at h;split at h
  case h_2=>cases h
  split at h
  case h_2=>cases h
  rename_i k n;split at h
  case h_2=>cases h
  rename_i fl u l hid;split at h
  case isFalse=>cases h
  rename_i hc;rw [za0,decide_eq_true_eq] at hc;have e:=za3 hc.1;have e2:s.ln id=l.length:=by unfold DS.ln kg;rw [hid];rfl
  obtain ⟨W4,hc2⟩:=hc;subst hc2;refine ⟨_,?_,h⟩;simp only [TV.av,slc,aH,bw hid,TO.av,zah,e2,e,zaL,Option.map_none,b8];simp
 ·rename_i v;split at h
  case h_2=>cases h
  split at h
  case h_2=>cases h
  split at h
  case h_2=>cases h
  rename_i k n;split at h
  case isFalse=>cases h
  rename_i hn;subst hn;exact ⟨_,rfl,h⟩
 ·exact Pe hg h
def KT (s:DS G) (pl sz:Nat) (z:List AV) (bytes:Nat) (x n:TV G) (c:TV G->DS G->Option R):Option R:=match x,n with
 | .raw v,.int k n=>(match v with
  | .bD=>if k= .i64 then (match ZY z with
   | some p=>if Nat.beq sz 1 then (Oc bytes n p.2).bind fun l=>if s.fits pl (.aL .norm p.1 l) then c (.own pl) (s.eE pl (.aL .norm p.1 l)) else none else none
   | none=>none) else none
  | _=>none)
 | _,_=>none
theorem NC {g:Ge G} (hg:g.Ok) {s:DS G} {pl sz qC:Nat} {z:List AV} {x n:TV G} {c:TV G->DS G->Option R} {r:R} (h:KT s pl sz z qC x n c=some r):
 iG g s (match x.av g s.ln,n.av g s.ln with
  | .bD,.int .i64 m=>if 0 < m/\m*qC<=2 ^ 40/\m<=2 ^ 40/\z.length=sz/\aV z=true then
   some (.own pl m.toNat 0 m.toNat,putObj (s.Hv g) pl (.live .norm sz (List.replicate m.toNat z))) else none
  | _,_=>none) c r:=by
 unfold KT at h;split at h
 case h_2=>cases h
 rename_i v k n;split at h
 case h_2=>cases h
 split at h
 case isFalse=>cases h
 rename_i hk;subst hk;split at h
 case h_2=>cases h
 rename_i p hp;split at h
 case isFalse=>cases h
 rename_i hc;have e:=za3 hc;subst e;obtain ⟨l,h1,h2⟩:=bind_some h;split at h2
 case isFalse=>cases h2
 rename_i hf;unfold Oc at h1;split at h1
 case isFalse=>cases h1
 rename_i hb;injection h1 with h1;subst h1
 obtain ⟨e1,e2⟩:=K3 (g:=g) hp;obtain ⟨k1,k2,k3⟩:=fV (g:=g) hf;refine ⟨_,_,?_,k1,k2,h2⟩;have e3:p.1.n g=1:=by
  have:=(c6 hg p.1).len p.2;rw [<-e1] at this;omega
 have e4:aV z=true:=by rw [e1];exact (c6 hg p.1).one p.2
 simp only [TV.av];rw [if_pos ⟨hb.1,hb.2.1,hb.2.2,e2,e4⟩,k3,ju (kD hf)];simp only [TO.len,zbN,TO.av,e3,zbs,<-e1]
def ev (g:Ge G) (gl:Nat->List AV) (s:DS G) (pl:Nat) (op:RO) (c:TV G->DS G->Option R):Option R:=match op with
 | .F6 x=>c (s.rx gl x) s
 | .pick p a b=>(match s.rx gl p with | .bool p=>KC p (s.rx gl a) (s.rx gl b) fun v=>c v s | _=>none)
 | .box x=>SU g s pl (s.rx gl x) c
 | .alloc z=>EZ s pl z c
 | .build z parts=>(match GC g (iK z) (parts.map fun p=>(p.1,p.2.1,s.rx gl p.2.2)) with | some l=>c (.agg l) s | none=>none)
 | .u5 sz z len parts=>Of g s pl sz z len (parts.map fun p=>(p.1,s.rx gl p.2)) c
 | .load n ag a=>Cg g s.H n ag (s.rx gl a) fun v=>c v s
 | .store n a x=>E1 g s n (s.rx gl a) (s.rx gl x) c
 | .bin op x y=>JW op (s.rx gl x) (s.rx gl y) fun v=>c v s
 | .un op x=>unV op (s.rx gl x) fun v=>c v s
 | .BZ neg ks x y=>TF g neg ks (s.rx gl x) (s.rx gl y) fun v=>c v s
 | .F7 neg x y=>XV neg (s.rx gl x) (s.rx gl y) fun v=>c v s
 | .Ax neg x y=>SS s.H neg (s.rx gl x) (s.rx gl y) fun v=>c v s
 | .F8 neg x y=>XW neg (s.rx gl x) (s.rx gl y) fun v=>c v s
 | .pF x=>(match s.rx gl x with
  | .eg t o=>o.bind fun v=>c (.bZ ((view g t v).cells g)) s
  | y=>(match R5 y with | some v=>c v s | none=>none))
 | .conv k x=>(match s.rx gl x with | .int _ n=>c (.int k (k.wrap n)) s | _=>none)
 | .Rg off n ag x=>(match s.rx gl x with | .agg l=>(match nw n ag l off with | some v=>c v s | none=>none) | _=>none)
 | .u0 off x=>(match ES off (s.rx gl x) with | some v=>c v s | none=>none)
 | .jb sz x i=>Gm g s.H sz (s.rx gl x) (s.rx gl i) fun v=>c v s
 | .mc len sz x i=>KE g s.H len sz (s.rx gl x) (s.rx gl i) fun v=>c v s
 | .nj len n ag x i=>KF g len n ag (s.rx gl x) (s.rx gl i) fun v=>c v s
 | .oU x i=>KG (s.rx gl x) (s.rx gl i) fun v=>c v s
 | .slc sz x lo hi=>TT g s sz (s.rx gl x) (lo.map (s.rx gl)) (hi.map (s.rx gl)) fun v=>c v s
 | .oV x lo hi=>KH (s.rx gl x) (lo.map (s.rx gl)) (hi.map (s.rx gl)) fun v=>c v s
 | .kU len sz x lo hi=>Kb g s.H len sz (s.rx gl x) (lo.map (s.rx gl)) (hi.map (s.rx gl)) fun v=>c v s
 | .N2 f cap=>c (.fn f (cap.map (s.rx gl))) s
 | .Rh f l=>(match posOf (l.map (s.rx gl)) with | some q=>c (.raw (.b8 f q)) s | none=>none)
 | .F9 sz z qC l m=>if Kc l m then SX s pl sz z qC (s.rx gl l) c else none
 | .len st x=>TH s.H st (s.rx gl x) fun v=>c v s
 | .app sz qC x y=>Og g s sz qC (s.rx gl x) (s.rx gl y) c
 | .mn l=>(match l.map (s.rx gl) with | x::r=>(match Wh false x r with | some v=>c v s | none=>none) | []=>none)
 | .mx l=>(match l.map (s.rx gl) with | x::r=>(match Wh true x r with | some v=>c v s | none=>none) | []=>none)
 | .ext x i=>(match s.rx gl x with | .bl l=>(match l[i]? with | some v=>c v s | none=>none) | _=>none)
 | .HV x=>(match s.rx gl x with | .int _ n=>c (.str (Utf8.encode n).data.toList) s | _=>none)
 | .HW=>if s.fits pl (.mT []) then c (.raw (.mp pl)) (s.eE pl (.mT [])) else none
 | .iV k z ok m x=>if ok then KQ s k [uQ z] (s.rx gl m) (s.rx gl x) c else none
 | .iU k m x v=>KS s k (s.rx gl m) (s.rx gl x) (s.rx gl v) c
 | .jx m=>KR s (s.rx gl m) c
 | .Ek x=>(match s.rx gl x with | .str a=>if s.fits pl (.yE a 0) then c (.raw (.qy pl)) (s.eE pl (.yE a 0)) else none | _=>none)
 | .uH x=>TS s (s.rx gl x) c
 | .EJ x=>(match s.rx gl x with | .raw v=>(match v with | .bD=>c (.int .i64 0) s | _=>none) | _=>none)
 | .sx sz z qC x n=>KT s pl sz z qC (s.rx gl x) (s.rx gl n) c
 | _=>none
theorem R9 {g:Ge G} (hg:g.Ok) {gl:Nat->List AV} {s:DS G} {pl:Nat} {op:RO} {c:TV G->DS G->Option R} {r:R} (h:ev g gl s pl op c=some r):op.kind≠ .call/\iG g s (Jm (gq gl (s.tm g)) pl op (s.Hv g)) c r:=by
 have P:∀ {op:RO} {w:TV G} {r:R},op.kind= .pure->cG (gq gl (s.tm g)) op=some (w.av g s.ln)->c w s=some r->op.kind≠ .call/\iG g s (Jm (gq gl (s.tm g)) pl op (s.Hv g)) c r:=by
  intro op w r hk he hc;refine ⟨by rw [hk];exact fun e=>(nomatch e),w,s,?_,rfl,rfl,hc⟩;simp only [Jm,bV,hk,he]
 have Rd:∀ {op:RO} {w:TV G} {r:R},op.kind= .read->en (gq gl (s.tm g)) (s.Hv g) op=some (w.av g s.ln)->c w s=some r->op.kind≠ .call/\iG g s (Jm (gq gl (s.tm g)) pl op (s.Hv g)) c r:=by
  intro op w r hk he hc;refine ⟨by rw [hk];exact fun e=>(nomatch e),w,s,?_,rfl,rfl,hc⟩;simp only [Jm,bV,hk,he]
 have Wr:∀ {op:RO} {r:R},op.kind= .write->iG g s (dg (gq gl (s.tm g)) (s.Hv g) pl op) c r->op.kind≠ .call/\iG g s (Jm (gq gl (s.tm g)) pl op (s.Hv g)) c r:=by
  intro op r hk he;refine ⟨by rw [hk];exact fun e=>(nomatch e),?_⟩;simp only [Jm,bV,hk];exact he
 have rx:=DS.mQ g gl s;have rxo:∀ o:Option RX,o.map (gq gl (s.tm g))=(o.map (s.rx gl)).map (TV.av g s.ln):=by
  intro o;cases o with
  | none=>rfl
  | some x=>simp [rx]
 cases op<;>dsimp only [ev] at h
 case F6 x=>exact P (op:= .F6 x) rfl (by simp only [cG,rx]) h
 case pick p a b=>
  split at h
  case h_2=>cases h
  rename_i q hq;obtain ⟨w,h1,h2⟩:=M7 (g:=g) (ln:=s.ln) h;refine P (w:=w) rfl ?_ h2;simp only [cG,rx,hq,TV.av];rw [h1];cases q<;>rfl
 case box x=>
  refine Wr rfl ?_;simp only [dg,rx];exact QZ hg h
 case alloc z=>
  refine Wr rfl ?_;simp only [dg];exact I7 h
 case build z parts=>
  split at h
  case h_2=>cases h
  rename_i l hl;have:=Dq (g:=g) (ln:=s.ln) hl;rw [gP,zb] at this;refine P (w:= .agg l) rfl ?_ h;simp only [cG,rx];rw [show (parts.map fun x=>(match x with | (o,n,x)=>(o,n,(s.rx gl x).av g s.ln):Nat×Nat×AV))=parts.map ((fun p=>(p.1,p.2.1,p.2.2.av g s.ln)) ∘ fun p=>(p.1,p.2.1,s.rx gl p.2.2)) from rfl,this];rfl
 case u5 sz z len parts=>
  refine Wr rfl ?_;have:=HG (g:=g) hg h;rw [zb] at this;simp only [dg,rx];exact this
 case load n ag a=>
  obtain ⟨w,h1,h2⟩:=wT hg h;exact Rd rfl (by simp only [en,rx];exact h1) h2
 case store n a x=>
  refine Wr rfl ?_;simp only [dg,rx];exact I8 hg h
 case bin op x y=>
  obtain ⟨w,h1,h2⟩:=Qy (g:=g) (ln:=s.ln) h;exact P (w:=w) rfl (by simp only [cG,rx];exact h1) h2
 case un op x=>
  obtain ⟨w,h1,h2⟩:=Vb (g:=g) (ln:=s.ln) h;exact P (w:=w) rfl (by simp only [cG,rx];exact h1) h2
 case BZ neg ks x y=>
  obtain ⟨w,h1,h2⟩:=QB hg (ln:=s.ln) h;exact P (w:=w) rfl (by simp only [cG,rx];exact h1) h2
 case F7 neg x y=>
  unfold XV at h;split at h
  case h_2=>cases h
  rename_i a b h1 h2;exact P (w:= .bool _) rfl (by simp only [cG,rx,h1,h2];rfl) h
 case Ax neg x y=>
  obtain ⟨w,h1,h2⟩:=Pf (g:=g) h;exact Rd rfl (by simp only [en,rx];exact h1) h2
 case F8 neg x y=>
  unfold XW at h;split at h
  case h_2=>cases h
  rename_i hy;split at h
  case h_2=>cases h
  rename_i b hb;refine P (w:= .bool _) rfl ?_ h;simp only [cG,rx,hy,TV.av];show (match (s.rx gl x).av g s.ln,AV.g7 with
   | x,.g7=>(match pY x with | some b=>some (AV.bool (b !=neg)) | none=>none)
   | .g7,y=>(match pY y with | some b=>some (AV.bool (b !=neg)) | none=>none)
   | _,_=>none)=_
  dsimp only;rw [Na hb]
 case pF x=>
  split at h
  ·rename_i t o ho;obtain ⟨v,h1,h2⟩:=bind_some h;subst h1;refine P (w:= .bZ ((view g t v).cells g)) rfl ?_ h2;simp only [cG,rx,ho];show pF (AV.bZ (enc g t v))=some (AV.bZ (TV.aS g s.ln ((view g t v).cells g)));rw [gO hg];rfl
  ·split at h
   case h_2=>cases h
   rename_i v hv;refine P (w:=v) rfl ?_ h;simp only [cG,rx];unfold R5 at hv;split at hv<;>first | (injection hv with hv;subst hv;rename_i e;rw [e];rfl) | cases hv
 case conv k x=>
  split at h
  case h_2=>cases h
  rename_i k' n hx;exact P (w:= .int k _) rfl (by simp only [cG,rx,hx,TV.av]) h
 case Rg off n ag x=>
  split at h
  case h_2=>cases h
  rename_i l hx;split at h
  case h_2=>cases h
  rename_i v hv;exact P (w:=v) rfl (by simp only [cG,rx,hx,TV.av];exact fQ hv) h
 case u0 off x=>
  split at h
  case h_2=>cases h
  rename_i v hv;exact P (w:=v) rfl (by simp only [cG,rx];exact Hx hv) h
 case jb sz x i=>
  obtain ⟨w,h1,h2⟩:=CN hg h;exact Rd rfl (by simp only [en,rx];exact h1) h2
 case mc len sz x i=>
  obtain ⟨w,h1,h2⟩:=Nb (g:=g) (ln:=s.ln) h;exact P (w:=w) rfl (by simp only [cG,rx];exact h1) h2
 case nj len n ag x i=>
  obtain ⟨w,h1,h2⟩:=Nc hg (ln:=s.ln) h;exact P (w:=w) rfl (by simp only [cG,rx];exact h1) h2
 case oU x i=>
  obtain ⟨w,h1,h2⟩:=Nd (g:=g) (ln:=s.ln) h;exact P (w:=w) rfl (by simp only [cG,rx];exact h1) h2
 case slc sz x lo hi=>
  obtain ⟨w,h1,h2⟩:=Q4 hg (s:=s) h;exact Rd rfl (by simp only [en,rx,rxo];exact h1) h2
 case oV x lo hi=>
  obtain ⟨w,h1,h2⟩:=Nf (g:=g) (ln:=s.ln) h;exact P (w:=w) rfl (by simp only [cG,rx,rxo];exact h1) h2
 case kU len sz x lo hi=>
  obtain ⟨w,h1,h2⟩:=L0 hg h;exact Rd rfl (by simp only [en,rx,rxo];exact h1) h2
 case N2 f cap=>exact P (w:= .fn f _) rfl (by simp only [cG,DS.gL];rfl) h
 case Rh f l=>
  split at h
  case h_2=>cases h
  rename_i q hq;exact P (w:= .raw (.b8 f q)) rfl (by simp only [cG,DS.gL];rw [DM hq];rfl) h
 case F9 sz z qC l m=>
  split at h
  case isFalse=>cases h
  rename_i hs;have e:=L3 hs;subst e;refine Wr rfl ?_;simp only [dg,rx];exact Q2 hg h
 case len st x=>
  obtain ⟨w,h1,h2⟩:=QF (g:=g) h;exact P (w:=w) rfl (by simp only [cG,rx];exact h1) h2
 case app sz qC x y=>
  refine Wr rfl ?_;simp only [dg,rx];exact HF hg h
 case mn l=>
  split at h
  case h_2=>cases h
  rename_i x r' hl;split at h
  case h_2=>cases h
  rename_i v hv;refine P (w:=v) rfl ?_ h;simp only [cG,DS.gL,hl,TV.aS];exact Fk (mx:=false) hv
 case mx l=>
  split at h
  case h_2=>cases h
  rename_i x r' hl;split at h
  case h_2=>cases h
  rename_i v hv;refine P (w:=v) rfl ?_ h;simp only [cG,DS.gL,hl,TV.aS];exact Fk (mx:=true) hv
 case ext x i=>
  split at h
  case h_2=>cases h
  rename_i l hx;split at h
  case h_2=>cases h
  rename_i v hv;refine P (w:=v) rfl ?_ h;simp only [cG,rx,hx,TV.av,bU,zay,hv];rfl
 case HW=>
  split at h
  case isFalse=>cases h
  rename_i hf;obtain ⟨k1,k2,k3⟩:=fV (g:=g) hf;refine Wr rfl ⟨.raw (.mp pl),_,?_,k1,k2,h⟩;simp only [dg];rw [k3];rfl
 case iV k z ok m x=>
  split at h
  case isFalse=>cases h
  rename_i ho;subst ho;refine Wr rfl ?_;simp only [dg,rx];exact Nz h
 case iU k m x v=>
  refine Wr rfl ?_;simp only [dg,rx];exact NB h
 case jx m=>
  refine Wr rfl ?_;simp only [dg,rx];exact NA h
 case Ek x=>
  split at h
  case h_2=>cases h
  rename_i a ha;split at h
  case isFalse=>cases h
  rename_i hf;obtain ⟨k1,k2,k3⟩:=fV (g:=g) hf;refine Wr rfl ⟨.raw (.qy pl),_,?_,k1,k2,h⟩;simp only [dg,rx,ha];rw [k3];rfl
 case uH x=>
  refine Wr rfl ?_;simp only [dg,rx];exact Q3 h
 case HV x=>
  split at h
  case h_2=>cases h
  rename_i k' n hx;exact P (w:= .str _) rfl (by simp only [cG,rx,hx,TV.av];rfl) h
 case EJ x=>
  split at h
  case h_2=>cases h
  rename_i v hv;split at h
  case h_2=>cases h
  exact P (w:= .int .i64 0) rfl (by simp only [cG,rx,hv,TV.av]) h
 case sx sz z qC x n=>
  refine Wr rfl ?_;simp only [dg,rx];exact NC hg h
 all_goals cases h
end
end oZ
