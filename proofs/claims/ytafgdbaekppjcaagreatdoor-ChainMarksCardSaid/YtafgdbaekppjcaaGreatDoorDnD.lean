/- Typed states: every operation but calls is what the machine does. No condition. -/
import Derived.Test.YtafgdbaekppjcaaGreatDoorDnC
set_option linter.unusedSectionVars false
set_option linter.unusedVariables false
set_option linter.unusedSimpArgs false
namespace nT
open Go hiding Obj mark
open Go.Pl Go.Am Go.Am.As
set_option linter.unusedVariables false
section
variable {G:Nat->Type} {R:Type}
def gT (g:Ge G) (s:DS G) (m:Option (AV×List Obj)) (c:TV G->DS G->Option R) (r:R):Prop:=
 ∃ (w:TV G) (s':DS G),m=some (w.av g s'.ln,s'.Hv g)/\s'.tm g=s.tm g/\s'.FR g=s.FR g/\c w s'=some r
theorem iK {s:DS G} {pl:Nat} (hp:pl<=s.H.length) (o:TO G):(s.dY pl o).ln pl=o.len:=by
 unfold DS.ln jD DS.dY;dsimp only;by_cases hl:pl < s.H.length
 ·rw [if_pos hl,List.getElem?_set_self hl]
 ·have:pl=s.H.length:=by omega
  subst this;rw [if_neg hl,List.getElem?_append_right (by omega)];simp
theorem jO {s:DS G} {pl:Nat} {o:TO G} (h:s.fits pl o=true):pl<=s.H.length:=by
 unfold DS.fits at h;rw [Bool.and_eq_true] at h;exact Nat.le_of_ble_eq_true h.1
theorem N4 {g:Ge G} (hg:g.Ok) {s:DS G} {pl:Nat} {v:TV G} {c:TV G->DS G->Option R} {r:R} (h:P2 g s pl v c=some r):
 gT g s (if aX (v.av g s.ln).cells=true then some (.ax pl 1 0 0,putObj (s.Hv g) pl (.live .norm (v.av g s.ln).cells.length [(v.av g s.ln).cells])) else none) c r:=by
 have other:∀ {v:TV G},(if gP (v.cells g)&&s.fits pl (.box (v.cells g)) then c (.po pl 0) (s.dY pl (.box (v.cells g))) else none)=some r->gT g s (if aX (v.av g s.ln).cells=true then some (.ax pl 1 0 0,putObj (s.Hv g) pl (.live .norm (v.av g s.ln).cells.length [(v.av g s.ln).cells])) else none) c r:=by
  intro v h;split at h
  case isFalse=>cases h
  rename_i hc;rw [Bool.and_eq_true] at hc;obtain ⟨h1,h2,h3⟩:=fq (g:=g) hc.2;refine ⟨_,_,?_,h1,h2,h⟩;rw [dc,if_pos (fA g s.ln hc.1),h3];have e:(s.dY pl (.box (v.cells g))).ln=s.ln:=by
   have h4:=hc.2;unfold DS.fits at h4;rw [Bool.and_eq_true] at h4;exact uV (jO hc.2) rfl (by simpa using h4.2)
  rw [e,dh];rfl
 unfold P2 at h;split at h
 ·rename_i n t a;split at h
  case isFalse=>cases h
  rename_i hc;obtain ⟨h1,h2,h3⟩:=fq (g:=g) hc;refine ⟨_,_,?_,h1,h2,h⟩;have e:(TV.av g s.ln (.arr n t a)).cells=(List.map (enc g t) a.1).flatten:=rfl;have e1:aX (List.map (enc g t) a.1).flatten=true:=(cR hg (.arr n t)).one a;rw [e,if_pos e1,h3,p6 hg,a.2];rfl
 ·exact other h
theorem Gw {g:Ge G} {s:DS G} {pl:Nat} {z:List AV} {c:TV G->DS G->Option R} {r:R} (h:C5 s pl z c=some r):
 gT g s (if aX z=true then some (.ax pl 1 0 0,putObj (s.Hv g) pl (.live .norm z.length [z])) else none) c r:=by
 unfold C5 at h;split at h
 case isFalse=>cases h
 rename_i hc;rw [Bool.and_eq_true] at hc;obtain ⟨h1,h2,h3⟩:=fq (g:=g) hc.2;refine ⟨_,_,?_,h1,h2,h⟩;rw [if_pos hc.1,h3,BZ];rfl
theorem K8 (g:Ge G) (ln:Nat->Nat) (n:Nat) (z:List AV):TV.cU g ln (List.replicate n (gV z))=List.replicate n z:=by
 rw [bl,List.map_replicate,gk]
theorem Fi {g:Ge G} (hg:g.Ok) {s:DS G} {pl sz:Nat} {z:List AV} {len:Nat} {parts:List (Nat×TV G)} {c:TV G->DS G->Option R} {r:R} (h:LI g s pl sz z len parts c=some r):
 gT g s (if z.length=sz/\aX z=true/\len*sz<=2 ^ 24 then
  (match jF sz (List.replicate len z) (parts.map fun p=>(p.1,p.2.av g s.ln)) with
   | some es=>some (.own pl len 0 len,putObj (s.Hv g) pl (.live .norm sz es))
   | none=>none) else none) c r:=by
 unfold LI at h;split at h
 case isFalse=>cases h
 rename_i hc;simp only [Bool.and_eq_true] at hc;split at h
 case h_2=>cases h
 rename_i es qI;split at h
 case isFalse=>cases h
 rename_i hf;obtain ⟨h1,h2,h3⟩:=fq (g:=g) hf;obtain ⟨h4,h5⟩:=xw (g:=g) (ln:=s.ln) qI;rw [K8] at h4;rw [List.length_replicate] at h5;refine ⟨_,_,?_,h1,h2,h⟩;rw [if_pos ⟨Nat.eq_of_beq_eq_true hc.1,hc.2.1,Nat.le_of_ble_eq_true hc.2.2⟩,h4,h3];have fin:(sL g sz es).len=es.length->(sL g sz es).av g (s.dY pl (sL g sz es)).ln (s.FR g)= .live .norm sz (TV.cU g s.ln es)->some (AV.own pl len 0 len,putObj (s.Hv g) pl (.live .norm sz (TV.cU g s.ln es)))=some (TV.av g (s.dY pl (sL g sz es)).ln (.own pl),putObj (s.Hv g) pl ((sL g sz es).av g (s.dY pl (sL g sz es)).ln (s.FR g))):=by
  intro k1 k2;have e:(s.dY pl (sL g sz es)).ln pl=len:=by rw [iK (jO hf),k1];exact h5
  show _=some (AV.own pl (DS.ln _ pl) 0 (DS.ln _ pl),_);rw [e,k2]
 apply fin
 ·rcases EB hg sz es with h | ⟨t,l,h,_,h6,_⟩
  ·rw [h];rfl
  ·rw [h];exact h6
 ·rcases EB hg sz es with h | ⟨t,l,h,h7,h6,h8⟩
  ·rw [h] at hf ⊢;have k:=zQ (jO hf) (TO.cN .norm sz es);unfold DS.fits at hf;simp only [Bool.and_eq_true] at hf;show Obj.live .norm sz _=_;rw [fG k es hf.2.2]
  ·rw [h,h8,<-h7];rfl
theorem eU {g:Ge G} {s:DS G} {id:Nat} {o o':TO G} (hid:s.H[id]?=some o) (hl:o'.len=o.len):(s.hN id o').ln=s.ln/\(s.hN id o').tm g=s.tm g/\(s.hN id o').FR g=s.FR g/\(s.hN id o').Hv g=(s.Hv g).set id (o'.av g s.ln (s.FR g)):=by
 have h:o'.len=s.ln id:=by unfold DS.ln jD;rw [hid];exact hl
 exact ⟨tK h,SF h,Ft h,N5 h⟩
theorem vX {α:Type} {C:α->List AV} {n:Nat} (hC:∀ a,(C a).length=n):∀ (l:List α) (k:Nat) (w:α),k < l.length->putAt (l.map C).flatten (k*n) (C w)=((l.set k w).map C).flatten:=by
 have go:∀ (xs a b d:List AV),b.length=xs.length->putAt (a++(b++d)) a.length xs=a++(xs++d):=by
  intro xs;induction xs with
  | nil=>intro a b d hl;simp at hl;simp [putAt,hl]
  | cons x xs ih=>
   intro a b d hl
   cases b with
   | nil=>simp at hl
   | cons y b=>
    have:=ih (a++[x]) b d (by simpa using hl);simp only [List.length_append,List.length_singleton,List.append_assoc,List.singleton_append] at this;simp only [putAt];rw [show (a++(y::b++d)).set a.length x=a++x::(b++d) by simp];rw [this];simp
 have key:∀ (l:List α) (k:Nat) (w:α) (a:List AV),k < l.length->putAt (a++(l.map C).flatten) (a.length+k*n) (C w)=a++((l.set k w).map C).flatten:=by
  intro l;induction l with
  | nil=>intro k w a hk;simp at hk
  | cons x l ih=>
   intro k w a hk
   cases k with
   | zero=>
    simp only [List.map_cons,List.flatten_cons,List.set_cons_zero,Nat.zero_mul,Nat.add_zero];exact go _ _ _ _ (by rw [hC,hC])
   | succ k=>
    simp only [List.map_cons,List.flatten_cons,List.set_cons_succ];rw [<-List.append_assoc,<-List.append_assoc,<-ih k w (a++C x) (by simpa using hk)];congr 1;rw [List.length_append,hC,Nat.succ_mul];omega
 intro l k w hk;have:=key l k w [] hk;simpa using this
theorem kn {s:DS G} {id:Nat} {fl:Fl} {t:Ty} {l:List (t.D G)} (hid:s.H[id]?=some (.bg fl t l)):s.ln id=l.length:=by unfold DS.ln jD;rw [hid];rfl
theorem Gx {g:Ge G} (hg:g.Ok) {s:DS G} {n:Nat} {x v:TV G} {c:TV G->DS G->Option R} {r:R} (h:C6 g s n x v c=some r):
 gT g s (match storeAt (s.Hv g) n (x.av g s.ln) (v.av g s.ln) with | some H'=>some (.bk [],H') | none=>none) c r:=by
 unfold C6 at h;split at h
 ·rename_i id o;split at h
  ·rename_i cs hid;split at h
   case isFalse=>cases h
   rename_i hc;simp only [Bool.and_eq_true] at hc;have e1:=Nat.eq_of_beq_eq_true hc.1;have e2:=Nat.le_of_ble_eq_true hc.2.1;obtain ⟨k1,k2,k3,k4⟩:=eU (g:=g) (o':= .box (kT cs o (v.cells g))) hid rfl;refine ⟨_,_,?_,k2,k3,h⟩;rw [k1,k4];simp only [TV.av,storeAt,aH,bp hid,TO.av,List.length_singleton,cw,dc,dh,e1];rw [if_pos ⟨trivial,trivial,e2,fA g s.ln hc.2.2,rfl⟩];simp only [List.getElem?_cons_zero,List.set_cons_zero,vQ,nC]
  ·rename_i m t a hid;split at h
   ·rename_i m' t' a';split at h
    case isFalse=>cases h
    rename_i hh;obtain ⟨rfl,rfl⟩:=hh;split at h
    case isFalse=>cases h
    rename_i hc;simp only [Bool.and_eq_true] at hc;have e1:=Nat.eq_of_beq_eq_true hc.1;have e2:=Nat.eq_of_beq_eq_true hc.2;subst e1;subst e2;obtain ⟨k1,k2,k3,k4⟩:=eU (g:=g) (o':= .arr m' t' a') hid rfl;refine ⟨_,_,?_,k2,k3,h⟩;rw [k1,k4];have e:(TV.av g s.ln (.arr m' t' a')).cells=(List.map (enc g t') a'.1).flatten:=rfl;have hl:(List.map (enc g t') a'.1).flatten.length=m'*t'.n g:=by rw [p6 hg,a'.2]
    have Cs:(List.map (enc g t') a.1).flatten.length=m'*t'.n g:=by rw [p6 hg,a.2]
    have e1:aX (List.map (enc g t') a'.1).flatten=true:=(cR hg (.arr m' t')).one a';rw [show (TV.po id 0:TV G).av g s.ln= .ax id 1 0 0 from rfl];simp only [storeAt,aH,bp hid,TO.av,List.length_singleton,cw,e,hl];rw [if_pos ⟨trivial,trivial,by omega,e1,rfl⟩];simp only [List.getElem?_cons_zero,List.set_cons_zero];have go:∀ (xs b a:List AV),b.length=xs.length->putAt (a++b) a.length xs=a++xs:=by
     intro xs;induction xs with
     | nil=>intro b a hl;simp at hl;simp [putAt,hl]
     | cons x xs ih=>
      intro b a hl
      cases b with
      | nil=>simp at hl
      | cons y b=>
       have:=ih b (a++[x]) (by simpa using hl);simp only [List.length_append,List.length_singleton,List.append_assoc,List.singleton_append] at this;simp only [putAt];rw [show (a++y::b).set a.length x=a++x::b by simp,this]
    have:=go (List.map (enc g t') a'.1).flatten (List.map (enc g t') a.1).flatten [] (by rw [hl,Cs]);simp only [List.nil_append,List.length_nil] at this;rw [this];rfl
   ·split at h
    case isFalse=>cases h
    rename_i hc;simp only [Bool.and_eq_true] at hc;have e1:=Nat.eq_of_beq_eq_true hc.1;have e2:=Nat.eq_of_beq_eq_true hc.2;subst e2;split at h
    case h_2=>cases h
    rename_i w hw;obtain ⟨u,h1,h2⟩:=bind_some h;obtain ⟨h3,h4,h5⟩:=m7 h1;obtain ⟨k1,k2,k3,k4⟩:=eU (g:=g) (o':= .arr m t (a.put o w)) hid rfl;refine ⟨_,_,?_,k2,k3,h2⟩;rw [k1,k4];have e3:(v.av g s.ln).cells=enc g t w:=by
     have:=zR hg (ln:=s.ln) hw;rw [fB hw] at this;rw [dc];exact this
    simp only [TV.av,storeAt,aH,bp hid,TO.av,List.length_singleton,cw,e3,(cR hg t).len,(cR hg t).one,e1,Nat.mul_one];rw [if_pos ⟨trivial,trivial,by omega,trivial,rfl⟩];simp only [List.getElem?_cons_zero,List.set_cons_zero];have:=vX (cR hg t).len a.1 o w (by rw [a.2];omega);rw [e1,Nat.mul_one] at this;rw [this];rfl
  ·cases h
 ·rename_i id i o;split at h
  case h_2=>cases h
  rename_i fl t l hid;split at h
  case isFalse=>cases h
  rename_i hc;simp only [Bool.and_eq_true] at hc;have e1:=Nat.eq_of_beq_eq_true hc.2.1;have e2:=Nat.le_of_ble_eq_true hc.2.2.1;obtain ⟨u,h1,h2⟩:=bind_some h;obtain ⟨h3,h4,h5⟩:=m6 h1;split at h2
  case h_2=>cases h2
  rename_i w hw;obtain ⟨k1,k2,k3,k4⟩:=eU (g:=g) (o':= .bg fl t (l.set i.toNat w)) hid (by simp [TO.len]);refine ⟨_,_,?_,k2,k3,h2⟩;rw [k1,k4];have e3:putAt (enc g t u) o (TV.aR g s.ln (v.cells g))=enc g t w:=by
   have:=zR hg (ln:=s.ln) hw;rw [fB hw,nC,gj hg] at this;exact this
  simp only [TV.av,storeAt,aH,bp hid,TO.av,List.length_map,cw,dc,dh,e1];rw [if_pos ⟨kn hid,trivial,e2,fA g s.ln hc.2.2.2,hc.1⟩];simp only [List.getElem?_map,h5,Option.map_some,e3,List.map_set]
 ·rename_i id sz i o;split at h
  case h_2=>cases h
  rename_i m t a hid;split at h
  case isFalse=>cases h
  rename_i hc;simp only [Bool.and_eq_true] at hc;have e1:=Nat.eq_of_beq_eq_true hc.1;have e2:=Nat.eq_of_beq_eq_true hc.2.1;have e4:=Nat.eq_of_beq_eq_true hc.2.2;subst e1;subst e2;subst e4;split at h
  case h_2=>cases h
  rename_i w hw;obtain ⟨u,h1,h2⟩:=bind_some h;obtain ⟨h3,h4,h5⟩:=m7 h1;obtain ⟨k1,k2,k3,k4⟩:=eU (g:=g) (o':= .arr m t (a.put i.toNat w)) hid rfl;refine ⟨_,_,?_,k2,k3,h2⟩;rw [k1,k4];have e3:(v.av g s.ln).cells=enc g t w:=by
   have:=zR hg (ln:=s.ln) hw;rw [fB hw] at this;rw [dc];exact this
  have hk:i.toNat < m:=by omega
  have hm:i.toNat*t.n g+t.n g<=m*t.n g:=by
   rw [<-Nat.succ_mul];exact Nat.mul_le_mul_right _ hk
  simp only [TV.av,storeAt,aH,bp hid,TO.av,List.length_singleton,cw,e3,(cR hg t).len,(cR hg t).one,Nat.add_zero];rw [if_pos ⟨trivial,trivial,hm,trivial,rfl⟩];simp only [List.getElem?_cons_zero,List.set_cons_zero];rw [vX (cR hg t).len a.1 i.toNat w (by rw [a.2];exact hk)];rfl
 ·cases h
theorem pR {g:Ge G} {s:DS G} {id:Nat} {o o':TO G} (hid:s.H[id]?=some o):(s.dy id o').ln id=o'.len/\(s.dy id o').tm g=s.tm g/\(s.dy id o').FR g=s.FR g/\(s.dy id o').Hv g=(s.Hv g).set id (o'.av g (s.dy id o').ln (s.FR g)):=by
 refine ⟨?_,SG g s id o',Fu g s id o',N6 g s id o'⟩;have hl:=(List.getElem?_eq_some_iff.1 hid).1;unfold DS.ln jD DS.dy;dsimp only;rw [List.getElem?_set_self (by simpa using hl)]
theorem kG {α:Type} {o8:Nat} {l m v:List α} (h:cX o8 l m=some v):((l.length+m.length)*o8<=2 ^ 40/\l.length+m.length<=2 ^ 40)/\v=l++m:=by
 unfold cX at h;split at h
 ·rename_i hc;injection h with h;exact ⟨hc,h.symm⟩
 ·cases h
theorem DQ {H:List Obj} {pl sz o8 id:Nat} {fl:Fl} {es new:List (List AV)} {x:AV} (hH:H[id]?=some (.live fl sz es)) (hx:di H x=some new) (ha:(new.all fun e=>e.length==sz&&aX e)=true) (hf:fl.sj=true)
 (hb:(es.length+new.length)*o8<=2 ^ 40/\es.length+new.length<=2 ^ 40):Am.append H pl sz o8 (.own id es.length 0 es.length) x=some (.own id (es.length+new.length) 0 (es.length+new.length),H.set id (.live fl sz (es++new))):=by
 simp only [Am.append,hx,ha,if_true,aH,hH,cw,hf];rw [if_pos ⟨trivial,trivial,trivial,trivial,hb.1,hb.2⟩]
theorem Fh {g:Ge G} (hg:g.Ok) {s:DS G} {pl sz o8:Nat} {x y:TV G} {c:TV G->DS G->Option R} {r:R} (h:LJ g s sz o8 x y c=some r):
 gT g s (Am.append (s.Hv g) pl sz o8 (x.av g s.ln) (y.av g s.ln)) c r:=by
 unfold LJ at h;split at h
 case h_2=>cases h
 rename_i id;have fin:∀ {o o':TO G} {fl:Fl} {es new:List (List AV)} {r:R},s.H[id]?=some o->o.av g s.ln (s.FR g)= .live fl sz es->di (s.Hv g) (y.av g s.ln)=some new->(new.all fun e=>e.length==sz&&aX e)=true->fl.sj=true->
  (es.length+new.length)*o8<=2 ^ 40/\es.length+new.length<=2 ^ 40->o.len=es.length->o'.len=es.length+new.length->o'.av g (s.dy id o').ln (s.FR g)= .live fl sz (es++new)->c (.own id) (s.dy id o')=some r->gT g s (Am.append (s.Hv g) pl sz o8 ((TV.own id:TV G).av g s.ln) (y.av g s.ln)) c r:=by
  intro o o' fl es new r hid h1 h2 h3 h4 h5 h6 h7 h8 h9;obtain ⟨k1,k2,k3,k4⟩:=pR (g:=g) (o':=o') hid;have e:s.ln id=es.length:=by unfold DS.ln jD;rw [hid];exact h6
  refine ⟨_,_,?_,k2,k3,h9⟩;have hH:(s.Hv g)[id]?=some (.live fl sz es):=by rw [bp hid,h1]
  rw [show (TV.own id:TV G).av g s.ln= .own id (s.ln id) 0 (s.ln id) from rfl,e,DQ hH h2 h3 h4 h5];rw [show (TV.own id:TV G).av g (s.dy id o').ln= .own id ((s.dy id o').ln id) 0 ((s.dy id o').ln id) from rfl,k1,k4,h7,h8]
 split at h
 ·rename_i fl t l u m hid hy;split at h
  case isFalse=>cases h
  rename_i e;subst e;split at h
  case isFalse=>cases h
  rename_i hc;simp only [Bool.and_eq_true] at hc;have e1:=Nat.eq_of_beq_eq_true hc.2;obtain ⟨v,h1,h2⟩:=bind_some h;obtain ⟨h3,rfl⟩:=kG h1;refine fin hid (by rw [<-e1];rfl) (kA hy) (by rw [<-e1];exact P3 hg m) hc.1 (by simpa [LK.av] using h3) (by simp [TO.len]) (by simp [TO.len,LK.av]) ?_ h2;simp only [TO.av,e1,LK.av,List.map_append]
 ·rename_i fl t l es hid hy;split at h
  case isFalse=>cases h
  rename_i hc;simp only [Bool.and_eq_true] at hc;have e1:=Nat.eq_of_beq_eq_true hc.2;split at h
  case h_2=>
   split at h
   case h_2=>cases h
   rename_i m hm;split at h
   case isFalse=>cases h
   rename_i hok;rw [Bool.and_eq_true] at hok;obtain ⟨v,h1,h2⟩:=bind_some h;obtain ⟨h3,_⟩:=kG h1;have hml:m.length=es.length:=by
    have:=(gY hg s.ln hm).2;rw [List.length_map] at this;exact this.symm
   have hy':=kA (g:=g) hy;refine fin hid (by rw [<-e1];rfl) hy' (rB hok.1) hc.1 (by rw [hml] at h3;simpa [LK.av,bl] using h3) (by simp [TO.len]) (by simp [TO.len,LK.av,bl]) ?_ h2;simp only [TO.av,e1,LK.av];rw [fG (p0 s id _) _ hok.2]
  rename_i m hm;obtain ⟨v,h1,h2⟩:=bind_some h;obtain ⟨h3,rfl⟩:=kG h1;obtain ⟨h4,h5⟩:=gY hg s.ln hm;have hy':=kA (g:=g) hy;rw [show (LK.raw es).av g s.ln=TV.cU g s.ln es from rfl,h4] at hy';refine fin hid (by rw [<-e1];rfl) hy' (by rw [<-e1];exact P3 hg m) hc.1 (by simpa using h3) (by simp [TO.len]) (by simp [TO.len]) ?_ h2;simp only [TO.av,e1,List.map_append]
 ·rename_i fl sz' es t m hid hy;split at h
  case isFalse=>cases h
  rename_i hc;simp only [Bool.and_eq_true] at hc;have e1:=Nat.eq_of_beq_eq_true hc.2.1;have e2:=Nat.eq_of_beq_eq_true hc.2.2;subst e2;split at h
  case h_2=>cases h
  rename_i l hl;obtain ⟨v,h1,h2⟩:=bind_some h;obtain ⟨h3,rfl⟩:=kG h1;obtain ⟨h4,h5⟩:=gY hg s.ln hl;refine fin hid (es:=l.map (enc g t)) (by simp only [TO.av,h4]) (kA hy) (by rw [<-e1];exact P3 hg m) hc.1 (by simpa [LK.av] using h3) (by simp [TO.len,h5]) (by simp [TO.len,LK.av]) ?_ h2;simp only [TO.av,e1,LK.av,List.map_append]
 ·rename_i fl sz' es es' hid hy;split at h
  case isFalse=>cases h
  rename_i hc;simp only [Bool.and_eq_true] at hc;have e2:=Nat.eq_of_beq_eq_true hc.2.2;subst e2;obtain ⟨v,h1,h2⟩:=bind_some h;obtain ⟨h3,rfl⟩:=kG h1;split at h2
  case isFalse=>cases h2
  rename_i hn;refine fin hid (es:=TV.cU g s.ln es) rfl (kA hy) (rB hc.2.1) hc.1 (by simpa [LK.av,bl] using h3) (by simp [TO.len,bl]) (by simp [TO.len,LK.av,bl]) ?_ h2;simp only [TO.av,LK.av];rw [fG (p0 s id _) _ hn,bl,bl,bl,List.map_append]
 ·cases h
theorem N7 {g:Ge G} (hg:g.Ok) {s:DS G} {pl sz o8:Nat} {z:List AV} {n:TV G} {c:TV G->DS G->Option R} {r:R} (h:P4 s pl sz z o8 n c=some r):
 gT g s (match n.av g s.ln,n.av g s.ln with
  | .int .i64 n,.int .i64 m=>if n=m/\0<=n/\n*o8<=2 ^ 40/\n<=2 ^ 40/\z.length=sz/\aX z=true then
   some (.own pl n.toNat 0 n.toNat,putObj (s.Hv g) pl (.live .norm sz (List.replicate n.toNat z))) else none
  | _,_=>none) c r:=by
 unfold P4 at h;split at h
 case h_2=>cases h
 rename_i n;split at h
 case h_2=>cases h
 rename_i p hp;split at h
 case isFalse=>cases h
 rename_i hc;have e:=Nat.eq_of_beq_eq_true hc;subst e;obtain ⟨l,h1,h2⟩:=bind_some h;split at h2
 case isFalse=>cases h2
 rename_i hf;unfold qH at h1;split at h1
 case isFalse=>cases h1
 rename_i hb;injection h1 with h1;subst h1
 obtain ⟨e1,e2⟩:=IB (g:=g) hp;obtain ⟨k1,k2,k3⟩:=fq (g:=g) hf;refine ⟨_,_,?_,k1,k2,h2⟩;have e3:p.1.n g=1:=by
  have:=(cR hg p.1).len p.2;rw [<-e1] at this;omega
 have e4:aX z=true:=by rw [e1];exact (cR hg p.1).one p.2
 simp only [TV.av];rw [if_pos ⟨trivial,hb.1,hb.2.1,hb.2.2,e2,e4⟩,k3,iK (jO hf)];simp only [TO.len,List.length_replicate,TO.av,e3,List.map_replicate,<-e1]
def posOf:List (TV G)->Option (List AV)
 | []=>some []
 | .po id o::r=>(match posOf r with | some l=>some (.ax id 1 0 o::l) | none=>none)
 | _::_=>none
theorem BM {g:Ge G} {ln:Nat->Nat}:∀ {l:List (TV G)} {q:List AV},posOf l=some q->TV.aR g ln l=q
 | [],q,h=>by cases h;rfl
 | x::r,q,h=>by
  unfold posOf at h;split at h
  ·rename_i e;cases e
  ·rename_i id o r' e;injection e with e1 e2
   subst e1;subst e2;split at h
   case h_2=>cases h
   rename_i m hm;injection h with h;subst h
   rw [TV.aR,BM hm];rfl
  ·cases h
theorem r6 {x:List UInt8}:∀ (l:List (List UInt8×Int)) (i:Nat),(DY x l=none/\me .str (.str x) i (l.map fun p=>(.str p.1,.int .i64 p.2))=some none/\∀ v,Cy x v l=l++[(x,v)])\/
 ∃ (j:Nat) (n:Int),DY x l=some n/\me .str (.str x) i (l.map fun p=>(.str p.1,.int .i64 p.2))=some (some (i+j,.int .i64 n))/\∀ v,Cy x v l=l.set j (x,v)
 | [],i=> .inl ⟨rfl,rfl,fun _=>rfl⟩
 | p::r,i=>by
  by_cases h:x=p.1
  ·refine .inr ⟨0,p.2,by rw [DY,if_pos h],?_,fun v=>by rw [Cy,if_pos h];rfl⟩;simp only [List.map_cons,me,ec,h,beq_self_eq_true,Nat.add_zero]
  ·have hb:(x==p.1)=false:=by simpa using h
   rcases r6 r (i+1) with ⟨h1,h2,h3⟩ | ⟨j,n,h1,h2,h3⟩
   ·refine .inl ⟨by rw [DY,if_neg h,h1],?_,fun v=>by rw [Cy,if_neg h,h3];rfl⟩;simp only [List.map_cons,me,ec,hb,h2]
   ·refine .inr ⟨j+1,n,by rw [DY,if_neg h,h1],?_,fun v=>by rw [Cy,if_neg h,h3];rfl⟩;simp only [List.map_cons,me,ec,hb,h2];rw [show i+1+j=i+(j+1) by omega]
def It (s:DS G) (k:CK) (z:List (TV G)) (m x:TV G) (c:TV G->DS G->Option R):Option R:=match m,x with
 | .raw v,.str a=>(match v with
  | .mp id=>(match s.H[id]? with
   | some (.fQ l)=>(match k with
    | .str=>cond (DY a l).isSome (c (.bk [.int .i64 ((DY a l).getD 0),.bool true]) s) (c (.bk (z++[.bool false])) s)
    | _=>none)
   | _=>none)
  | _=>none)
 | _,_=>none
theorem K9 {g:Ge G} {s:DS G} {k:CK} {z:AV} {m x:TV G} {c:TV G->DS G->Option R} {r:R} (h:It s k [sV z] m x c=some r):
 gT g s (match ia (s.Hv g) k z true (m.av g s.ln) (x.av g s.ln) with | some v=>some (v,s.Hv g) | none=>none) c r:=by
 unfold It at h;split at h
 case h_2=>cases h
 rename_i v a;split at h
 case h_2=>cases h
 rename_i id;split at h
 case h_2=>cases h
 rename_i l hid;split at h
 case h_2=>cases h
 have hH:iU (s.Hv g) id=some (l.map fun p=>(.str p.1,.int .i64 p.2)):=by unfold iU;rw [bp hid];rfl
 have e:ia (s.Hv g) .str z true ((TV.raw (.mp id):TV G).av g s.ln) ((TV.str a:TV G).av g s.ln)=some (match DY a l with | some n=> .bk [.int .i64 n,.bool true] | none=> .bk [z,.bool false]):=by
  show ia (s.Hv g) .str z true (.mp id) (.str a)=_;unfold ia entries;dsimp only;rw [hH];dsimp only;rcases r6 (x:=a) l 0 with ⟨h1,h2,_⟩ | ⟨j,n,h1,h2,_⟩
  ·rw [h1,h2];rfl
  ·rw [h1,h2];rfl
 rw [e]
 cases hq:DY a l with
 | none=>
  rw [hq] at h;refine ⟨.bk [sV z,.bool false],s,?_,rfl,rfl,h⟩;show _=some (AV.bk [_,_],_);rw [tL];rfl
 | some n=>
  rw [hq] at h;exact ⟨.bk [.int .i64 n,.bool true],s,rfl,rfl,rfl,h⟩
def Iu (s:DS G) (m:TV G) (c:TV G->DS G->Option R):Option R:=match m with
 | .raw v=>(match v with
  | .mp id=>(match s.H[id]? with
   | some (.fQ l)=>c (.int .i64 (l.length:Int)) s
   | _=>none)
  | _=>none)
 | _=>none
theorem La {g:Ge G} {s:DS G} {m:TV G} {c:TV G->DS G->Option R} {r:R} (h:Iu s m c=some r):
 gT g s (match iP (s.Hv g) (m.av g s.ln) with | some v=>some (v,s.Hv g) | none=>none) c r:=by
 unfold Iu at h;split at h
 case h_2=>cases h
 rename_i v;split at h
 case h_2=>cases h
 rename_i id;split at h
 case h_2=>cases h
 rename_i l hid;have hH:iU (s.Hv g) id=some (l.map fun p=>(.str p.1,.int .i64 p.2)):=by unfold iU;rw [bp hid];rfl
 refine ⟨.int .i64 (l.length:Int),s,?_,rfl,rfl,h⟩;show (match iP (s.Hv g) (.mp id) with | some v=>some (v,s.Hv g) | none=>none)=_;unfold iP entries;dsimp only;rw [hH];dsimp only;rw [List.length_map];rfl
def Iv (s:DS G) (k:CK) (m x v:TV G) (c:TV G->DS G->Option R):Option R:=match m,x,v with
 | .raw w,.str a,.int kd n=>(match w with
  | .mp id=>(match s.H[id]? with
   | some (.fQ l)=>(match k with
    | .str=>if kd= .i64 then c (.raw (.bk [])) (s.hN id (.fQ (Cy a n l))) else none
    | _=>none)
   | _=>none)
  | _=>none)
 | _,_,_=>none
theorem Lb {g:Ge G} {s:DS G} {k:CK} {m x v:TV G} {c:TV G->DS G->Option R} {r:R} (h:Iv s k m x v c=some r):
 gT g s (match hY (s.Hv g) k (m.av g s.ln) (x.av g s.ln) (v.av g s.ln) with | some H'=>some (.bk [],H') | none=>none) c r:=by
 unfold Iv at h;split at h
 case h_2=>cases h
 rename_i w a kd n;split at h
 case h_2=>cases h
 rename_i id;split at h
 case h_2=>cases h
 rename_i l hid;split at h
 case h_2=>cases h
 split at h
 case isFalse=>cases h
 rename_i hk;subst hk;obtain ⟨k1,k2,k3,k4⟩:=eU (g:=g) (o':= .fQ (Cy a n l)) hid rfl;have hH:iU (s.Hv g) id=some (l.map fun p=>(.str p.1,.int .i64 p.2)):=by unfold iU;rw [bp hid];rfl
 refine ⟨.raw (.bk []),_,?_,k2,k3,h⟩;show (match hY (s.Hv g) .str (.mp id) (.str a) (.int .i64 n) with | some H'=>some (.bk [],H') | none=>none)=some (AV.bk [],_);rw [k4];unfold hY;dsimp only;rw [hH];dsimp only;rcases r6 (x:=a) l 0 with ⟨h1,h2,h3⟩ | ⟨j,q,h1,h2,h3⟩
 ·rw [h2];dsimp only;rw [if_pos (by simp only [ec];rfl),h3 n];show some (AV.bk [],(s.Hv g).set id (.mp _))=some (AV.bk [],(s.Hv g).set id (.mp ((l++[(a,n)]).map _)));rw [List.map_append];rfl
 ·rw [h2];dsimp only;rw [h3 n];show some (AV.bk [],(s.Hv g).set id (.mp _))=some (AV.bk [],(s.Hv g).set id (.mp ((l.set j (a,n)).map _)));rw [List.map_set,Nat.zero_add]
def QV (s:DS G) (x:TV G) (c:TV G->DS G->Option R):Option R:=match x with
 | .raw w=>(match w with
  | .oZ id=>(match s.H[id]? with
   | some (.wC a p)=>cond (Nat.blt p.toNat a.length) (c (.bk [.bool true,.int .i64 (p.toNat:Int),.int .i32 (qK a p).1]) (s.hN id (.wC a (qK a p).2))) (c (.bk [.bool false]) s)
   | _=>none)
  | _=>none)
 | _=>none
theorem N8 {g:Ge G} {s:DS G} {x:TV G} {c:TV G->DS G->Option R} {r:R} (h:QV s x c=some r):
 gT g s (sK (s.Hv g) (x.av g s.ln)) c r:=by
 unfold QV at h;split at h
 case h_2=>cases h
 rename_i w;split at h
 case h_2=>cases h
 rename_i id;split at h
 case h_2=>cases h
 rename_i a p hid;have hH:(s.Hv g)[id]?=some (.it a p.toNat):=bp hid;have e:sK (s.Hv g) ((TV.raw (.oZ id):TV G).av g s.ln)=if p.toNat < a.length then some (.bk [.bool true,.int .i64 (p.toNat:Int),.int .i32 (qK a p).1],(s.Hv g).set id (.it a (qK a p).2.toNat)) else some (.bk [.bool false],s.Hv g):=by
  show sK (s.Hv g) (.oZ id)=_;unfold sK;dsimp only;rw [hH];rfl
 rw [e]
 cases hb:Nat.blt p.toNat a.length with
 | true=>
  rw [hb] at h;have hlt:p.toNat < a.length:=by simpa [Nat.blt_eq] using hb
  obtain ⟨k1,k2,k3,k4⟩:=eU (g:=g) (o':= .wC a (qK a p).2) hid rfl;refine ⟨.bk [.bool true,.int .i64 (p.toNat:Int),.int .i32 (qK a p).1],_,?_,k2,k3,h⟩;rw [if_pos hlt,k4];rfl
 | false=>
  rw [hb] at h;have hlt:¬ p.toNat < a.length:=by
   intro hc;rw [show Nat.blt p.toNat a.length=true by simpa [Nat.blt_eq] using hc] at hb
   cases hb
  refine ⟨.bk [.bool false],s,?_,rfl,rfl,h⟩;rw [if_neg hlt];rfl
def UO (g:Ge G) (H:List (TO G)) (sz id:Nat) (lo hi:Option (TV G)) (c:TV G->Option R):Option R:=match lo,hi with
 | none,some h=>(match h with
  | .int _ n=>(match H[id]? with
   | some (.bg fl u l)=>if Nat.beq (u.n g) sz&&decide (n=0) then c (.raw (.own id l.length 0 0)) else none
   | _=>none)
  | _=>none)
 | _,_=>none
def QW (g:Ge G) (s:DS G) (sz:Nat) (x:TV G) (lo hi:Option (TV G)) (c:TV G->Option R):Option R:=match x with
 | .own id=>UO g s.H sz id lo hi c
 | .raw v=>(match v with
  | .bx=>(match lo,hi with
   | none,some h=>(match h with | .int _ n=>if n=0 then c (.raw .bx) else none | _=>none)
   | _,_=>none)
  | _=>none)
 | x=>P0 g sz x lo hi c
theorem N9 {g:Ge G} (hg:g.Ok) {s:DS G} {sz:Nat} {x:TV G} {lo hi:Option (TV G)} {c:TV G->Option R} {r:R} (h:QW g s sz x lo hi c=some r):∃ w:TV G,slc (s.Hv g) sz (x.av g s.ln) (lo.map (TV.av g s.ln)) (hi.map (TV.av g s.ln))=some (w.av g s.ln)/\c w=some r:=by
 unfold QW at h;split at h
 ·rename_i id;unfold UO at h;split at h
  case h_2=>cases h
  split at h
  case h_2=>cases h
  rename_i k n;split at h
  case h_2=>cases h
  rename_i fl u l hid;split at h
  case isFalse=>cases h
  rename_i hc;rw [Bool.and_eq_true,decide_eq_true_eq] at hc;have e:=Nat.eq_of_beq_eq_true hc.1;have e2:s.ln id=l.length:=by unfold DS.ln jD;rw [hid];rfl
  obtain ⟨hc1,hc2⟩:=hc;subst hc2;refine ⟨_,?_,h⟩;simp only [TV.av,slc,aH,bp hid,TO.av,List.length_map,e2,e,Option.map_some,Option.map_none,bL];simp
 ·rename_i v;split at h
  case h_2=>cases h
  split at h
  case h_2=>cases h
  split at h
  case h_2=>cases h
  rename_i k n;split at h
  case isFalse=>cases h
  rename_i hn;subst hn;exact ⟨_,rfl,h⟩
 ·exact Mw hg h
def Iw (s:DS G) (pl sz:Nat) (z:List AV) (bytes:Nat) (x n:TV G) (c:TV G->DS G->Option R):Option R:=match x,n with
 | .raw v,.int k n=>(match v with
  | .bx=>if k= .i64 then (match Wx z with
   | some p=>if Nat.beq sz 1 then (LG bytes n p.2).bind fun l=>if s.fits pl (.bg .norm p.1 l) then c (.own pl) (s.dY pl (.bg .norm p.1 l)) else none else none
   | none=>none) else none
  | _=>none)
 | _,_=>none
theorem Lc {g:Ge G} (hg:g.Ok) {s:DS G} {pl sz o8:Nat} {z:List AV} {x n:TV G} {c:TV G->DS G->Option R} {r:R} (h:Iw s pl sz z o8 x n c=some r):
 gT g s (match x.av g s.ln,n.av g s.ln with
  | .bx,.int .i64 m=>if 0 < m/\m*o8<=2 ^ 40/\m<=2 ^ 40/\z.length=sz/\aX z=true then
   some (.own pl m.toNat 0 m.toNat,putObj (s.Hv g) pl (.live .norm sz (List.replicate m.toNat z))) else none
  | _,_=>none) c r:=by
 unfold Iw at h;split at h
 case h_2=>cases h
 rename_i v k n;split at h
 case h_2=>cases h
 split at h
 case isFalse=>cases h
 rename_i hk;subst hk;split at h
 case h_2=>cases h
 rename_i p hp;split at h
 case isFalse=>cases h
 rename_i hc;have e:=Nat.eq_of_beq_eq_true hc;subst e;obtain ⟨l,h1,h2⟩:=bind_some h;split at h2
 case isFalse=>cases h2
 rename_i hf;unfold LG at h1;split at h1
 case isFalse=>cases h1
 rename_i hb;injection h1 with h1;subst h1
 obtain ⟨e1,e2⟩:=IB (g:=g) hp;obtain ⟨k1,k2,k3⟩:=fq (g:=g) hf;refine ⟨_,_,?_,k1,k2,h2⟩;have e3:p.1.n g=1:=by
  have:=(cR hg p.1).len p.2;rw [<-e1] at this;omega
 have e4:aX z=true:=by rw [e1];exact (cR hg p.1).one p.2
 simp only [TV.av];rw [if_pos ⟨hb.1,hb.2.1,hb.2.2,e2,e4⟩,k3,iK (jO hf)];simp only [TO.len,List.length_replicate,TO.av,e3,List.map_replicate,<-e1]
def ev (g:Ge G) (gl:Nat->List AV) (s:DS G) (pl:Nat) (op:RO) (c:TV G->DS G->Option R):Option R:=match op with
 | .DZ x=>c (s.rx gl x) s
 | .pick p a b=>(match s.rx gl p with | .bool p=>Ib p (s.rx gl a) (s.rx gl b) fun v=>c v s | _=>none)
 | .box x=>P2 g s pl (s.rx gl x) c
 | .alloc z=>C5 s pl z c
 | .build z parts=>(match Ep g (gV z) (parts.map fun p=>(p.1,p.2.1,s.rx gl p.2.2)) with | some l=>c (.agg l) s | none=>none)
 | .sY sz z len parts=>LI g s pl sz z len (parts.map fun p=>(p.1,s.rx gl p.2)) c
 | .load n ag a=>Au g s.H n ag (s.rx gl a) fun v=>c v s
 | .store n a x=>C6 g s n (s.rx gl a) (s.rx gl x) c
 | .bin op x y=>Hq op (s.rx gl x) (s.rx gl y) fun v=>c v s
 | .un op x=>X3 op (s.rx gl x) fun v=>c v s
 | .Aa neg ks x y=>QH g neg ks (s.rx gl x) (s.rx gl y) fun v=>c v s
 | .D0 neg x y=>UG neg (s.rx gl x) (s.rx gl y) fun v=>c v s
 | .yz neg x y=>P1 s.H neg (s.rx gl x) (s.rx gl y) fun v=>c v s
 | .D1 neg x y=>UH neg (s.rx gl x) (s.rx gl y) fun v=>c v s
 | .oh x=>(match s.rx gl x with
  | .dB t o=>o.bind fun v=>c (.bV ((view g t v).cells g)) s
  | y=>(match Pb y with | some v=>c v s | none=>none))
 | .conv k x=>(match s.rx gl x with | .int _ n=>c (.int k (k.wrap n)) s | _=>none)
 | .Ol off n ag x=>(match s.rx gl x with | .agg l=>(match md n ag l off with | some v=>c v s | none=>none) | _=>none)
 | .sX off x=>(match C0 off (s.rx gl x) with | some v=>c v s | none=>none)
 | .iu sz x i=>Ec g s.H sz (s.rx gl x) (s.rx gl i) fun v=>c v s
 | .kN len sz x i=>Ie g s.H len sz (s.rx gl x) (s.rx gl i) fun v=>c v s
 | .lW len n ag x i=>Ig g len n ag (s.rx gl x) (s.rx gl i) fun v=>c v s
 | .nN x i=>Ih (s.rx gl x) (s.rx gl i) fun v=>c v s
 | .slc sz x lo hi=>QW g s sz (s.rx gl x) (lo.map (s.rx gl)) (hi.map (s.rx gl)) fun v=>c v s
 | .nO x lo hi=>Ii (s.rx gl x) (lo.map (s.rx gl)) (hi.map (s.rx gl)) fun v=>c v s
 | .j7 len sz x lo hi=>HF g s.H len sz (s.rx gl x) (lo.map (s.rx gl)) (hi.map (s.rx gl)) fun v=>c v s
 | .Lx f cap=>c (.fn f (cap.map (s.rx gl))) s
 | .Om f l=>(match posOf (l.map (s.rx gl)) with | some q=>c (.raw (.bL f q)) s | none=>none)
 | .D2 sz z o8 l m=>if HG l m then P4 s pl sz z o8 (s.rx gl l) c else none
 | .len st x=>QJ s.H st (s.rx gl x) fun v=>c v s
 | .app sz o8 x y=>LJ g s sz o8 (s.rx gl x) (s.rx gl y) c
 | .mn l=>(match l.map (s.rx gl) with | x::r=>(match Tg false x r with | some v=>c v s | none=>none) | []=>none)
 | .mx l=>(match l.map (s.rx gl) with | x::r=>(match Tg true x r with | some v=>c v s | none=>none) | []=>none)
 | .ext x i=>(match s.rx gl x with | .bk l=>(match l[i]? with | some v=>c v s | none=>none) | _=>none)
 | .FA x=>(match s.rx gl x with | .int _ n=>c (.str (Utf8.encode n).data.toList) s | _=>none)
 | .FB=>if s.fits pl (.fQ []) then c (.raw (.mp pl)) (s.dY pl (.fQ [])) else none
 | .ia k z ok m x=>if ok then It s k [sV z] (s.rx gl m) (s.rx gl x) c else none
 | .hY k m x v=>Iv s k (s.rx gl m) (s.rx gl x) (s.rx gl v) c
 | .iP m=>Iu s (s.rx gl m) c
 | .Cq x=>(match s.rx gl x with | .str a=>if s.fits pl (.wC a 0) then c (.raw (.oZ pl)) (s.dY pl (.wC a 0)) else none | _=>none)
 | .sK x=>QV s (s.rx gl x) c
 | .CP x=>(match s.rx gl x with | .raw v=>(match v with | .bx=>c (.int .i64 0) s | _=>none) | _=>none)
 | .qL sz z o8 x n=>Iw s pl sz z o8 (s.rx gl x) (s.rx gl n) c
 | _=>none
theorem Pf {g:Ge G} (hg:g.Ok) {gl:Nat->List AV} {s:DS G} {pl:Nat} {op:RO} {c:TV G->DS G->Option R} {r:R} (h:ev g gl s pl op c=some r):op.kind≠ .call/\gT g s (GL (fI gl (s.tm g)) pl op (s.Hv g)) c r:=by
 have P:∀ {op:RO} {w:TV G} {r:R},op.kind= .pure->cy (fI gl (s.tm g)) op=some (w.av g s.ln)->c w s=some r->op.kind≠ .call/\gT g s (GL (fI gl (s.tm g)) pl op (s.Hv g)) c r:=by
  intro op w r hk he hc;refine ⟨by rw [hk];exact fun e=>(nomatch e),w,s,?_,rfl,rfl,hc⟩;simp only [GL,bY,hk,he]
 have Rd:∀ {op:RO} {w:TV G} {r:R},op.kind= .read->dG (fI gl (s.tm g)) (s.Hv g) op=some (w.av g s.ln)->c w s=some r->op.kind≠ .call/\gT g s (GL (fI gl (s.tm g)) pl op (s.Hv g)) c r:=by
  intro op w r hk he hc;refine ⟨by rw [hk];exact fun e=>(nomatch e),w,s,?_,rfl,rfl,hc⟩;simp only [GL,bY,hk,he]
 have Wr:∀ {op:RO} {r:R},op.kind= .write->gT g s (cW (fI gl (s.tm g)) (s.Hv g) pl op) c r->op.kind≠ .call/\gT g s (GL (fI gl (s.tm g)) pl op (s.Hv g)) c r:=by
  intro op r hk he;refine ⟨by rw [hk];exact fun e=>(nomatch e),?_⟩;simp only [GL,bY,hk];exact he
 have rx:=DS.lI g gl s;have Yl:∀ o:Option RX,o.map (fI gl (s.tm g))=(o.map (s.rx gl)).map (TV.av g s.ln):=by
  intro o;cases o with
  | none=>rfl
  | some x=>simp [rx]
 cases op<;>dsimp only [ev] at h
 case DZ x=>exact P (op:= .DZ x) rfl (by simp only [cy,rx]) h
 case pick p a b=>
  split at h
  case h_2=>cases h
  rename_i q hq;obtain ⟨w,h1,h2⟩:=KC (g:=g) (ln:=s.ln) h;refine P (w:=w) rfl ?_ h2;simp only [cy,rx,hq,TV.av];rw [h1];cases q<;>rfl
 case box x=>
  refine Wr rfl ?_;simp only [cW,rx];exact N4 hg h
 case alloc z=>
  refine Wr rfl ?_;simp only [cW];exact Gw h
 case build z parts=>
  split at h
  case h_2=>cases h
  rename_i l hl;have:=Bs (g:=g) (ln:=s.ln) hl;rw [gk,List.map_map] at this;refine P (w:= .agg l) rfl ?_ h;simp only [cy,rx];rw [show (parts.map fun x=>(match x with | (o,n,x)=>(o,n,(s.rx gl x).av g s.ln):Nat×Nat×AV))=parts.map ((fun p=>(p.1,p.2.1,p.2.2.av g s.ln)) ∘ fun p=>(p.1,p.2.1,s.rx gl p.2.2)) from rfl,this];rfl
 case sY sz z len parts=>
  refine Wr rfl ?_;have:=Fi (g:=g) hg h;rw [List.map_map] at this;simp only [cW,rx];exact this
 case load n ag a=>
  obtain ⟨w,h1,h2⟩:=uH hg h;exact Rd rfl (by simp only [dG,rx];exact h1) h2
 case store n a x=>
  refine Wr rfl ?_;simp only [cW,rx];exact Gx hg h
 case bin op x y=>
  obtain ⟨w,h1,h2⟩:=NB (g:=g) (ln:=s.ln) h;exact P (w:=w) rfl (by simp only [cy,rx];exact h1) h2
 case un op x=>
  obtain ⟨w,h1,h2⟩:=Sd (g:=g) (ln:=s.ln) h;exact P (w:=w) rfl (by simp only [cy,rx];exact h1) h2
 case Aa neg ks x y=>
  obtain ⟨w,h1,h2⟩:=NF hg (ln:=s.ln) h;exact P (w:=w) rfl (by simp only [cy,rx];exact h1) h2
 case D0 neg x y=>
  unfold UG at h;split at h
  case h_2=>cases h
  rename_i a b h1 h2;exact P (w:= .bool _) rfl (by simp only [cy,rx,h1,h2];rfl) h
 case yz neg x y=>
  obtain ⟨w,h1,h2⟩:=Mx (g:=g) h;exact Rd rfl (by simp only [dG,rx];exact h1) h2
 case D1 neg x y=>
  unfold UH at h;split at h
  case h_2=>cases h
  rename_i hy;split at h
  case h_2=>cases h
  rename_i b hb;refine P (w:= .bool _) rfl ?_ h;simp only [cy,rx,hy,TV.av];show (match (s.rx gl x).av g s.ln,AV.gA with
   | x,.gA=>(match oD x with | some b=>some (AV.bool (b !=neg)) | none=>none)
   | .gA,y=>(match oD y with | some b=>some (AV.bool (b !=neg)) | none=>none)
   | _,_=>none)=_
  dsimp only;rw [KF hb]
 case oh x=>
  split at h
  ·rename_i t o ho;obtain ⟨v,h1,h2⟩:=bind_some h;subst h1;refine P (w:= .bV ((view g t v).cells g)) rfl ?_ h2;simp only [cy,rx,ho];show oh (AV.bV (enc g t v))=some (AV.bV (TV.aR g s.ln ((view g t v).cells g)));rw [gj hg];rfl
  ·split at h
   case h_2=>cases h
   rename_i v hv;refine P (w:=v) rfl ?_ h;simp only [cy,rx];unfold Pb at hv;split at hv<;>first | (injection hv with hv;subst hv;rename_i e;rw [e];rfl) | cases hv
 case conv k x=>
  split at h
  case h_2=>cases h
  rename_i k' n hx;exact P (w:= .int k _) rfl (by simp only [cy,rx,hx,TV.av]) h
 case Ol off n ag x=>
  split at h
  case h_2=>cases h
  rename_i l hx;split at h
  case h_2=>cases h
  rename_i v hv;exact P (w:=v) rfl (by simp only [cy,rx,hx,TV.av];exact fh hv) h
 case sX off x=>
  split at h
  case h_2=>cases h
  rename_i v hv;exact P (w:=v) rfl (by simp only [cy,rx];exact Fa hv) h
 case iu sz x i=>
  obtain ⟨w,h1,h2⟩:=AT hg h;exact Rd rfl (by simp only [dG,rx];exact h1) h2
 case kN len sz x i=>
  obtain ⟨w,h1,h2⟩:=KG (g:=g) (ln:=s.ln) h;exact P (w:=w) rfl (by simp only [cy,rx];exact h1) h2
 case lW len n ag x i=>
  obtain ⟨w,h1,h2⟩:=KH hg (ln:=s.ln) h;exact P (w:=w) rfl (by simp only [cy,rx];exact h1) h2
 case nN x i=>
  obtain ⟨w,h1,h2⟩:=KI (g:=g) (ln:=s.ln) h;exact P (w:=w) rfl (by simp only [cy,rx];exact h1) h2
 case slc sz x lo hi=>
  obtain ⟨w,h1,h2⟩:=N9 hg (s:=s) h;exact Rd rfl (by simp only [dG,rx,Yl];exact h1) h2
 case nO x lo hi=>
  obtain ⟨w,h1,h2⟩:=KJ (g:=g) (ln:=s.ln) h;exact P (w:=w) rfl (by simp only [cy,rx,Yl];exact h1) h2
 case j7 len sz x lo hi=>
  obtain ⟨w,h1,h2⟩:=Jl hg h;exact Rd rfl (by simp only [dG,rx,Yl];exact h1) h2
 case Lx f cap=>exact P (w:= .fn f _) rfl (by simp only [cy,DS.gf];rfl) h
 case Om f l=>
  split at h
  case h_2=>cases h
  rename_i q hq;exact P (w:= .raw (.bL f q)) rfl (by simp only [cy,DS.gf];rw [BM hq];rfl) h
 case D2 sz z o8 l m=>
  split at h
  case isFalse=>cases h
  rename_i hs;have e:=Jm hs;subst e;refine Wr rfl ?_;simp only [cW,rx];exact N7 hg h
 case len st x=>
  obtain ⟨w,h1,h2⟩:=NJ (g:=g) h;exact P (w:=w) rfl (by simp only [cy,rx];exact h1) h2
 case app sz o8 x y=>
  refine Wr rfl ?_;simp only [cW,rx];exact Fh hg h
 case mn l=>
  split at h
  case h_2=>cases h
  rename_i x r' hl;split at h
  case h_2=>cases h
  rename_i v hv;refine P (w:=v) rfl ?_ h;simp only [cy,DS.gf,hl,TV.aR];exact Dl (mx:=false) hv
 case mx l=>
  split at h
  case h_2=>cases h
  rename_i x r' hl;split at h
  case h_2=>cases h
  rename_i v hv;refine P (w:=v) rfl ?_ h;simp only [cy,DS.gf,hl,TV.aR];exact Dl (mx:=true) hv
 case ext x i=>
  split at h
  case h_2=>cases h
  rename_i l hx;split at h
  case h_2=>cases h
  rename_i v hv;refine P (w:=v) rfl ?_ h;simp only [cy,rx,hx,TV.av,bX,List.getElem?_map,hv];rfl
 case FB=>
  split at h
  case isFalse=>cases h
  rename_i hf;obtain ⟨k1,k2,k3⟩:=fq (g:=g) hf;refine Wr rfl ⟨.raw (.mp pl),_,?_,k1,k2,h⟩;simp only [cW];rw [k3];rfl
 case ia k z ok m x=>
  split at h
  case isFalse=>cases h
  rename_i ho;subst ho;refine Wr rfl ?_;simp only [cW,rx];exact K9 h
 case hY k m x v=>
  refine Wr rfl ?_;simp only [cW,rx];exact Lb h
 case iP m=>
  refine Wr rfl ?_;simp only [cW,rx];exact La h
 case Cq x=>
  split at h
  case h_2=>cases h
  rename_i a ha;split at h
  case isFalse=>cases h
  rename_i hf;obtain ⟨k1,k2,k3⟩:=fq (g:=g) hf;refine Wr rfl ⟨.raw (.oZ pl),_,?_,k1,k2,h⟩;simp only [cW,rx,ha];rw [k3];rfl
 case sK x=>
  refine Wr rfl ?_;simp only [cW,rx];exact N8 h
 case FA x=>
  split at h
  case h_2=>cases h
  rename_i k' n hx;exact P (w:= .str _) rfl (by simp only [cy,rx,hx,TV.av];rfl) h
 case CP x=>
  split at h
  case h_2=>cases h
  rename_i v hv;split at h
  case h_2=>cases h
  exact P (w:= .int .i64 0) rfl (by simp only [cy,rx,hv,TV.av]) h
 case qL sz z o8 x n=>
  refine Wr rfl ?_;simp only [cW,rx];exact Lc hg h
 all_goals cases h
end
end nT
