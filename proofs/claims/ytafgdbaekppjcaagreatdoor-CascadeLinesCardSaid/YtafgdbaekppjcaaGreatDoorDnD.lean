/- Parts of my machine and its laws, joined: DnD DnE. No condition. -/
import Derived.Test.YtafgdbaekppjcaaGreatDoorDnC
set_option linter.unusedSectionVars false
set_option linter.unusedVariables false
set_option linter.unusedSimpArgs false
section
namespace Dnm
open Go hiding Obj mark
open Go.Pl Go.Am Go.Am.As
set_option linter.unusedVariables false
section
variable {G:Nat→Type} {R:Type}
def EvOk (g:Ge G) (s:DS G) (m:Option (AV×List Obj)) (c:TV G→DS G→Option R) (r:R):Prop:=
 ∃ (w:TV G) (s':DS G),m=some (w.av g s'.ln,s'.Hv g)∧s'.tm g=s.tm g∧s'.FR g=s.FR g∧c w s'=some r
theorem newO_self {s:DS G} {pl:Nat} (hp:pl≤s.H.length) (o:TO G):(s.newO pl o).ln pl=o.len:=by
 unfold DS.ln lnH DS.newO
 dsimp only
 by_cases hl:pl < s.H.length
 ·rw [if_pos hl,List.getElem?_set_self hl]
 ·have:pl=s.H.length:=by omega
  subst this
  rw [if_neg hl,List.getElem?_append_right (by omega)]
  simp
theorem fits_le {s:DS G} {pl:Nat} {o:TO G} (h:s.fits pl o=true):pl≤s.H.length:=by
 unfold DS.fits at h
 rw [Bool.and_eq_true] at h
 exact Nat.le_of_ble_eq_true h.1
theorem boxV_ok {g:Ge G} (hg:g.Ok) {s:DS G} {pl:Nat} {v:TV G} {c:TV G→DS G→Option R} {r:R} (h:boxV g s pl v c=some r):
 EvOk g s (if allOne (v.av g s.ln).cells=true then some (.pown pl 1 0 0,putObj (s.Hv g) pl (.live .norm (v.av g s.ln).cells.length [(v.av g s.ln).cells])) else none) c r:=by
 have other:∀ {v:TV G},(if allOneV (v.cells g)&&s.fits pl (.box (v.cells g)) then c (.po pl 0) (s.newO pl (.box (v.cells g))) else none)=some r→EvOk g s (if allOne (v.av g s.ln).cells=true then some (.pown pl 1 0 0,putObj (s.Hv g) pl (.live .norm (v.av g s.ln).cells.length [(v.av g s.ln).cells])) else none) c r:=by
  intro v h
  split at h
  case isFalse=>cases h
  rename_i hc
  rw [Bool.and_eq_true] at hc
  obtain ⟨h1,h2,h3⟩:=newO_ok (g:=g) hc.2
  refine ⟨_,_,?_,h1,h2,h⟩
  rw [av_cells,if_pos (allOneV_ok g s.ln hc.1),h3]
  have e:(s.newO pl (.box (v.cells g))).ln=s.ln:=by
   have h4:=hc.2
   unfold DS.fits at h4
   rw [Bool.and_eq_true] at h4
   exact newO_ln0 (fits_le hc.2) rfl (by simpa using h4.2)
  rw [e,avs_len];rfl
 unfold boxV at h
 split at h
 ·rename_i n t a
  split at h
  case isFalse=>cases h
  rename_i hc
  obtain ⟨h1,h2,h3⟩:=newO_ok (g:=g) hc
  refine ⟨_,_,?_,h1,h2,h⟩
  have e:(TV.av g s.ln (.arr n t a)).cells=(List.map (enc g t) a.1).flatten:=rfl
  have e1:allOne (List.map (enc g t) a.1).flatten=true:=(encOk hg (.arr n t)).one a
  rw [e,if_pos e1,h3,flat_len hg,a.2];rfl
 ·exact other h
theorem allocV_ok {g:Ge G} {s:DS G} {pl:Nat} {z:List AV} {c:TV G→DS G→Option R} {r:R} (h:allocV s pl z c=some r):
 EvOk g s (if allOne z=true then some (.pown pl 1 0 0,putObj (s.Hv g) pl (.live .norm z.length [z])) else none) c r:=by
 unfold allocV at h
 split at h
 case isFalse=>cases h
 rename_i hc
 rw [Bool.and_eq_true] at hc
 obtain ⟨h1,h2,h3⟩:=newO_ok (g:=g) hc.2
 refine ⟨_,_,?_,h1,h2,h⟩
 rw [if_pos hc.1,h3,newCells_av];rfl
theorem avss_rep (g:Ge G) (ln:Nat→Nat) (n:Nat) (z:List AV):TV.avss g ln (List.replicate n (ofAVs z))=List.replicate n z:=by
 rw [avss_map,List.map_replicate,ofAVs_av]
theorem bslV_ok {g:Ge G} (hg:g.Ok) {s:DS G} {pl sz:Nat} {z:List AV} {len:Nat} {parts:List (Nat×TV G)} {c:TV G→DS G→Option R} {r:R} (h:bslV g s pl sz z len parts c=some r):
 EvOk g s (if z.length=sz∧allOne z=true∧len*sz≤2 ^ 24 then
  (match fillS sz (List.replicate len z) (parts.map fun p=>(p.1,p.2.av g s.ln)) with
   | some es=>some (.own pl len 0 len,putObj (s.Hv g) pl (.live .norm sz es))
   | none=>none) else none) c r:=by
 unfold bslV at h
 split at h
 case isFalse=>cases h
 rename_i hc
 simp only [Bool.and_eq_true] at hc
 split at h
 case h_2=>cases h
 rename_i es hes
 split at h
 case isFalse=>cases h
 rename_i hf
 obtain ⟨h1,h2,h3⟩:=newO_ok (g:=g) hf
 obtain ⟨h4,h5⟩:=fillSV_ok (g:=g) (ln:=s.ln) hes
 rw [avss_rep] at h4
 rw [List.length_replicate] at h5
 refine ⟨_,_,?_,h1,h2,h⟩
 rw [if_pos ⟨Nat.eq_of_beq_eq_true hc.1,hc.2.1,Nat.le_of_ble_eq_true hc.2.2⟩,h4,h3]
 have fin:(litO g sz es).len=es.length→(litO g sz es).av g (s.newO pl (litO g sz es)).ln (s.FR g)= .live .norm sz (TV.avss g s.ln es)→some (AV.own pl len 0 len,putObj (s.Hv g) pl (.live .norm sz (TV.avss g s.ln es)))=some (TV.av g (s.newO pl (litO g sz es)).ln (.own pl),putObj (s.Hv g) pl ((litO g sz es).av g (s.newO pl (litO g sz es)).ln (s.FR g))):=by
  intro k1 k2
  have e:(s.newO pl (litO g sz es)).ln pl=len:=by rw [newO_self (fits_le hf),k1];exact h5
  show _=some (AV.own pl (DS.ln _ pl) 0 (DS.ln _ pl),_)
  rw [e,k2]
 apply fin
 ·rcases litO_ok hg sz es with h | ⟨t,l,h,_,h6,_⟩
  ·rw [h];rfl
  ·rw [h];exact h6
 ·rcases litO_ok hg sz es with h | ⟨t,l,h,h7,h6,h8⟩
  ·rw [h] at hf ⊢
   have k:=newO_ln (fits_le hf) (TO.raws .norm sz es)
   unfold DS.fits at hf
   simp only [Bool.and_eq_true] at hf
   show Obj.live .norm sz _=_
   rw [norefss_av k es hf.2.2]
  ·rw [h,h8,←h7];rfl
theorem setN_ok {g:Ge G} {s:DS G} {id:Nat} {o o':TO G} (hid:s.H[id]?=some o) (hl:o'.len=o.len):(s.setN id o').ln=s.ln∧(s.setN id o').tm g=s.tm g∧(s.setN id o').FR g=s.FR g∧(s.setN id o').Hv g=(s.Hv g).set id (o'.av g s.ln (s.FR g)):=by
 have h:o'.len=s.ln id:=by unfold DS.ln lnH;rw [hid];exact hl
 exact ⟨setN_ln h,setN_T h,setN_FR h,setN_Hv h⟩
theorem putAt_flat {α:Type} {C:α→List AV} {n:Nat} (hC:∀ a,(C a).length=n):∀ (l:List α) (k:Nat) (w:α),k < l.length→putAt (l.map C).flatten (k*n) (C w)=((l.set k w).map C).flatten:=by
 have go:∀ (xs a b d:List AV),b.length=xs.length→putAt (a++(b++d)) a.length xs=a++(xs++d):=by
  intro xs
  induction xs with
  | nil=>intro a b d hl;simp at hl;simp [putAt,hl]
  | cons x xs ih=>
   intro a b d hl
   cases b with
   | nil=>simp at hl
   | cons y b=>
    have:=ih (a++[x]) b d (by simpa using hl)
    simp only [List.length_append,List.length_singleton,List.append_assoc,List.singleton_append] at this
    simp only [putAt]
    rw [show (a++(y::b++d)).set a.length x=a++x::(b++d) by simp]
    rw [this];simp
 have key:∀ (l:List α) (k:Nat) (w:α) (a:List AV),k < l.length→putAt (a++(l.map C).flatten) (a.length+k*n) (C w)=a++((l.set k w).map C).flatten:=by
  intro l
  induction l with
  | nil=>intro k w a hk;simp at hk
  | cons x l ih=>
   intro k w a hk
   cases k with
   | zero=>
    simp only [List.map_cons,List.flatten_cons,List.set_cons_zero,Nat.zero_mul,Nat.add_zero]
    exact go _ _ _ _ (by rw [hC,hC])
   | succ k=>
    simp only [List.map_cons,List.flatten_cons,List.set_cons_succ]
    rw [←List.append_assoc,←List.append_assoc,←ih k w (a++C x) (by simpa using hk)]
    congr 1
    rw [List.length_append,hC,Nat.succ_mul];omega
 intro l k w hk
 have:=key l k w [] hk
 simpa using this
theorem setN_lst {s:DS G} {id:Nat} {fl:Fl} {t:Ty} {l:List (t.D G)} (hid:s.H[id]?=some (.lst fl t l)):s.ln id=l.length:=by unfold DS.ln lnH;rw [hid];rfl
theorem storeV_ok {g:Ge G} (hg:g.Ok) {s:DS G} {n:Nat} {x v:TV G} {c:TV G→DS G→Option R} {r:R} (h:storeV g s n x v c=some r):
 EvOk g s (match storeAt (s.Hv g) n (x.av g s.ln) (v.av g s.ln) with | some H'=>some (.tup [],H') | none=>none) c r:=by
 unfold storeV at h
 split at h
 ·rename_i id o
  split at h
  ·rename_i cs hid
   split at h
   case isFalse=>cases h
   rename_i hc
   simp only [Bool.and_eq_true] at hc
   have e1:=Nat.eq_of_beq_eq_true hc.1
   have e2:=Nat.le_of_ble_eq_true hc.2.1
   obtain ⟨k1,k2,k3,k4⟩:=setN_ok (g:=g) (o':= .box (putAtV cs o (v.cells g))) hid rfl
   refine ⟨_,_,?_,k2,k3,h⟩
   rw [k1,k4]
   simp only [TV.av,storeAt,getLive,Hv_get hid,TO.av,List.length_singleton,nlAt,av_cells,avs_len,e1]
   rw [if_pos ⟨trivial,trivial,e2,allOneV_ok g s.ln hc.2.2,rfl⟩]
   simp only [List.getElem?_cons_zero,List.set_cons_zero,putAtV_len,putAtV_ok]
  ·rename_i m t a hid
   split at h
   ·rename_i m' t' a'
    split at h
    case isFalse=>cases h
    rename_i hh
    obtain ⟨rfl,rfl⟩:=hh
    split at h
    case isFalse=>cases h
    rename_i hc
    simp only [Bool.and_eq_true] at hc
    have e1:=Nat.eq_of_beq_eq_true hc.1
    have e2:=Nat.eq_of_beq_eq_true hc.2
    subst e1;subst e2
    obtain ⟨k1,k2,k3,k4⟩:=setN_ok (g:=g) (o':= .arr m' t' a') hid rfl
    refine ⟨_,_,?_,k2,k3,h⟩
    rw [k1,k4]
    have e:(TV.av g s.ln (.arr m' t' a')).cells=(List.map (enc g t') a'.1).flatten:=rfl
    have hl:(List.map (enc g t') a'.1).flatten.length=m'*t'.n g:=by rw [flat_len hg,a'.2]
    have hl2:(List.map (enc g t') a.1).flatten.length=m'*t'.n g:=by rw [flat_len hg,a.2]
    have e1:allOne (List.map (enc g t') a'.1).flatten=true:=(encOk hg (.arr m' t')).one a'
    rw [show (TV.po id 0:TV G).av g s.ln= .pown id 1 0 0 from rfl]
    simp only [storeAt,getLive,Hv_get hid,TO.av,List.length_singleton,nlAt,e,hl]
    rw [if_pos ⟨trivial,trivial,by omega,e1,rfl⟩]
    simp only [List.getElem?_cons_zero,List.set_cons_zero]
    have go:∀ (xs b a:List AV),b.length=xs.length→putAt (a++b) a.length xs=a++xs:=by
     intro xs
     induction xs with
     | nil=>intro b a hl;simp at hl;simp [putAt,hl]
     | cons x xs ih=>
      intro b a hl
      cases b with
      | nil=>simp at hl
      | cons y b=>
       have:=ih b (a++[x]) (by simpa using hl)
       simp only [List.length_append,List.length_singleton,List.append_assoc,List.singleton_append] at this
       simp only [putAt]
       rw [show (a++y::b).set a.length x=a++x::b by simp,this]
    have:=go (List.map (enc g t') a'.1).flatten (List.map (enc g t') a.1).flatten [] (by rw [hl,hl2])
    simp only [List.nil_append,List.length_nil] at this
    rw [this];rfl
   ·split at h
    case isFalse=>cases h
    rename_i hc
    simp only [Bool.and_eq_true] at hc
    have e1:=Nat.eq_of_beq_eq_true hc.1
    have e2:=Nat.eq_of_beq_eq_true hc.2
    subst e2
    split at h
    case h_2=>cases h
    rename_i w hw
    obtain ⟨u,h1,h2⟩:=bind_some h
    obtain ⟨h3,h4,h5⟩:=aidx_lt h1
    obtain ⟨k1,k2,k3,k4⟩:=setN_ok (g:=g) (o':= .arr m t (a.put o w)) hid rfl
    refine ⟨_,_,?_,k2,k3,h2⟩
    rw [k1,k4]
    have e3:(v.av g s.ln).cells=enc g t w:=by
     have:=asT_avs hg (ln:=s.ln) hw
     rw [oneC_cells hw] at this
     rw [av_cells];exact this
    simp only [TV.av,storeAt,getLive,Hv_get hid,TO.av,List.length_singleton,nlAt,e3,(encOk hg t).len,(encOk hg t).one,e1,Nat.mul_one]
    rw [if_pos ⟨trivial,trivial,by omega,trivial,rfl⟩]
    simp only [List.getElem?_cons_zero,List.set_cons_zero]
    have:=putAt_flat (encOk hg t).len a.1 o w (by rw [a.2];omega)
    rw [e1,Nat.mul_one] at this
    rw [this];rfl
  ·cases h
 ·rename_i id i o
  split at h
  case h_2=>cases h
  rename_i fl t l hid
  split at h
  case isFalse=>cases h
  rename_i hc
  simp only [Bool.and_eq_true] at hc
  have e1:=Nat.eq_of_beq_eq_true hc.2.1
  have e2:=Nat.le_of_ble_eq_true hc.2.2.1
  obtain ⟨u,h1,h2⟩:=bind_some h
  obtain ⟨h3,h4,h5⟩:=idx_get h1
  split at h2
  case h_2=>cases h2
  rename_i w hw
  obtain ⟨k1,k2,k3,k4⟩:=setN_ok (g:=g) (o':= .lst fl t (l.set i.toNat w)) hid (by simp [TO.len])
  refine ⟨_,_,?_,k2,k3,h2⟩
  rw [k1,k4]
  have e3:putAt (enc g t u) o (TV.avs g s.ln (v.cells g))=enc g t w:=by
   have:=asT_avs hg (ln:=s.ln) hw
   rw [oneC_cells hw,putAtV_ok,view_avs hg] at this;exact this
  simp only [TV.av,storeAt,getLive,Hv_get hid,TO.av,List.length_map,nlAt,av_cells,avs_len,e1]
  rw [if_pos ⟨setN_lst hid,trivial,e2,allOneV_ok g s.ln hc.2.2.2,hc.1⟩]
  simp only [List.getElem?_map,h5,Option.map_some,e3,List.map_set]
 ·rename_i id sz i o
  split at h
  case h_2=>cases h
  rename_i m t a hid
  split at h
  case isFalse=>cases h
  rename_i hc
  simp only [Bool.and_eq_true] at hc
  have e1:=Nat.eq_of_beq_eq_true hc.1
  have e2:=Nat.eq_of_beq_eq_true hc.2.1
  have e4:=Nat.eq_of_beq_eq_true hc.2.2
  subst e1;subst e2;subst e4
  split at h
  case h_2=>cases h
  rename_i w hw
  obtain ⟨u,h1,h2⟩:=bind_some h
  obtain ⟨h3,h4,h5⟩:=aidx_lt h1
  obtain ⟨k1,k2,k3,k4⟩:=setN_ok (g:=g) (o':= .arr m t (a.put i.toNat w)) hid rfl
  refine ⟨_,_,?_,k2,k3,h2⟩
  rw [k1,k4]
  have e3:(v.av g s.ln).cells=enc g t w:=by
   have:=asT_avs hg (ln:=s.ln) hw
   rw [oneC_cells hw] at this
   rw [av_cells];exact this
  have hk:i.toNat < m:=by omega
  have hm:i.toNat*t.n g+t.n g≤m*t.n g:=by
   rw [←Nat.succ_mul];exact Nat.mul_le_mul_right _ hk
  simp only [TV.av,storeAt,getLive,Hv_get hid,TO.av,List.length_singleton,nlAt,e3,(encOk hg t).len,(encOk hg t).one,Nat.add_zero]
  rw [if_pos ⟨trivial,trivial,hm,trivial,rfl⟩]
  simp only [List.getElem?_cons_zero,List.set_cons_zero]
  rw [putAt_flat (encOk hg t).len a.1 i.toNat w (by rw [a.2];exact hk)];rfl
 ·cases h
theorem setO_ok {g:Ge G} {s:DS G} {id:Nat} {o o':TO G} (hid:s.H[id]?=some o):(s.setO id o').ln id=o'.len∧(s.setO id o').tm g=s.tm g∧(s.setO id o').FR g=s.FR g∧(s.setO id o').Hv g=(s.Hv g).set id (o'.av g (s.setO id o').ln (s.FR g)):=by
 refine ⟨?_,setO_T g s id o',setO_FR g s id o',setO_Hv g s id o'⟩
 have hl:=(List.getElem?_eq_some_iff.1 hid).1
 unfold DS.ln lnH DS.setO
 dsimp only
 rw [List.getElem?_set_self (by simpa using hl)]
theorem appc_some {α:Type} {by':Nat} {l m v:List α} (h:appc by' l m=some v):((l.length+m.length)*by'≤2 ^ 40∧l.length+m.length≤2 ^ 40)∧v=l++m:=by
 unfold appc at h
 split at h
 ·rename_i hc;injection h with h;exact ⟨hc,h.symm⟩
 ·cases h
theorem append_own {H:List Obj} {pl sz by' id:Nat} {fl:Fl} {es new:List (List AV)} {x:AV} (hH:H[id]?=some (.live fl sz es)) (hx:elemsOf H x=some new) (ha:(new.all fun e=>e.length==sz&&allOne e)=true) (hf:fl.grows=true)
 (hb:(es.length+new.length)*by'≤2 ^ 40∧es.length+new.length≤2 ^ 40):Am.append H pl sz by' (.own id es.length 0 es.length) x=some (.own id (es.length+new.length) 0 (es.length+new.length),H.set id (.live fl sz (es++new))):=by
 simp only [Am.append,hx,ha,if_true,getLive,hH,nlAt,hf]
 rw [if_pos ⟨trivial,trivial,trivial,trivial,hb.1,hb.2⟩]
theorem appV_ok {g:Ge G} (hg:g.Ok) {s:DS G} {pl sz by':Nat} {x y:TV G} {c:TV G→DS G→Option R} {r:R} (h:appV g s sz by' x y c=some r):
 EvOk g s (Am.append (s.Hv g) pl sz by' (x.av g s.ln) (y.av g s.ln)) c r:=by
 unfold appV at h
 split at h
 case h_2=>cases h
 rename_i id
 have fin:∀ {o o':TO G} {fl:Fl} {es new:List (List AV)} {r:R},s.H[id]?=some o→o.av g s.ln (s.FR g)= .live fl sz es→elemsOf (s.Hv g) (y.av g s.ln)=some new→(new.all fun e=>e.length==sz&&allOne e)=true→fl.grows=true→
  (es.length+new.length)*by'≤2 ^ 40∧es.length+new.length≤2 ^ 40→o.len=es.length→o'.len=es.length+new.length→o'.av g (s.setO id o').ln (s.FR g)= .live fl sz (es++new)→c (.own id) (s.setO id o')=some r→EvOk g s (Am.append (s.Hv g) pl sz by' ((TV.own id:TV G).av g s.ln) (y.av g s.ln)) c r:=by
  intro o o' fl es new r hid h1 h2 h3 h4 h5 h6 h7 h8 h9
  obtain ⟨k1,k2,k3,k4⟩:=setO_ok (g:=g) (o':=o') hid
  have e:s.ln id=es.length:=by unfold DS.ln lnH;rw [hid];exact h6
  refine ⟨_,_,?_,k2,k3,h9⟩
  have hH:(s.Hv g)[id]?=some (.live fl sz es):=by rw [Hv_get hid,h1]
  rw [show (TV.own id:TV G).av g s.ln= .own id (s.ln id) 0 (s.ln id) from rfl,e,append_own hH h2 h3 h4 h5]
  rw [show (TV.own id:TV G).av g (s.setO id o').ln= .own id ((s.setO id o').ln id) 0 ((s.setO id o').ln id) from rfl,k1,k4,h7,h8]
 split at h
 ·rename_i fl t l u m hid hy
  split at h
  case isFalse=>cases h
  rename_i e;subst e
  split at h
  case isFalse=>cases h
  rename_i hc
  simp only [Bool.and_eq_true] at hc
  have e1:=Nat.eq_of_beq_eq_true hc.2
  obtain ⟨v,h1,h2⟩:=bind_some h
  obtain ⟨h3,rfl⟩:=appc_some h1
  refine fin hid (by rw [←e1];rfl) (elemsV_ok hy) (by rw [←e1];exact okTy hg m) hc.1 (by simpa [LK.av] using h3) (by simp [TO.len]) (by simp [TO.len,LK.av]) ?_ h2
  simp only [TO.av,e1,LK.av,List.map_append]
 ·rename_i fl t l es hid hy
  split at h
  case isFalse=>cases h
  rename_i hc
  simp only [Bool.and_eq_true] at hc
  have e1:=Nat.eq_of_beq_eq_true hc.2
  split at h
  case h_2=>
   split at h
   case h_2=>cases h
   rename_i m hm
   split at h
   case isFalse=>cases h
   rename_i hok
   rw [Bool.and_eq_true] at hok
   obtain ⟨v,h1,h2⟩:=bind_some h
   obtain ⟨h3,_⟩:=appc_some h1
   have hml:m.length=es.length:=by
    have:=(rawsT_ok hg s.ln hm).2
    rw [List.length_map] at this;exact this.symm
   have hy':=elemsV_ok (g:=g) hy
   refine fin hid (by rw [←e1];rfl) hy' (okRaws_ok hok.1) hc.1 (by rw [hml] at h3;simpa [LK.av,avss_map] using h3) (by simp [TO.len]) (by simp [TO.len,LK.av,avss_map]) ?_ h2
   simp only [TO.av,e1,LK.av]
   rw [norefss_av (setO_ln s id _) _ hok.2]
  rename_i m hm
  obtain ⟨v,h1,h2⟩:=bind_some h
  obtain ⟨h3,rfl⟩:=appc_some h1
  obtain ⟨h4,h5⟩:=rawsT_ok hg s.ln hm
  have hy':=elemsV_ok (g:=g) hy
  rw [show (LK.raw es).av g s.ln=TV.avss g s.ln es from rfl,h4] at hy'
  refine fin hid (by rw [←e1];rfl) hy' (by rw [←e1];exact okTy hg m) hc.1 (by simpa using h3) (by simp [TO.len]) (by simp [TO.len]) ?_ h2
  simp only [TO.av,e1,List.map_append]
 ·rename_i fl sz' es t m hid hy
  split at h
  case isFalse=>cases h
  rename_i hc
  simp only [Bool.and_eq_true] at hc
  have e1:=Nat.eq_of_beq_eq_true hc.2.1
  have e2:=Nat.eq_of_beq_eq_true hc.2.2
  subst e2
  split at h
  case h_2=>cases h
  rename_i l hl
  obtain ⟨v,h1,h2⟩:=bind_some h
  obtain ⟨h3,rfl⟩:=appc_some h1
  obtain ⟨h4,h5⟩:=rawsT_ok hg s.ln hl
  refine fin hid (es:=l.map (enc g t)) (by simp only [TO.av,h4]) (elemsV_ok hy) (by rw [←e1];exact okTy hg m) hc.1 (by simpa [LK.av] using h3) (by simp [TO.len,h5]) (by simp [TO.len,LK.av]) ?_ h2
  simp only [TO.av,e1,LK.av,List.map_append]
 ·rename_i fl sz' es es' hid hy
  split at h
  case isFalse=>cases h
  rename_i hc
  simp only [Bool.and_eq_true] at hc
  have e2:=Nat.eq_of_beq_eq_true hc.2.2
  subst e2
  obtain ⟨v,h1,h2⟩:=bind_some h
  obtain ⟨h3,rfl⟩:=appc_some h1
  split at h2
  case isFalse=>cases h2
  rename_i hn
  refine fin hid (es:=TV.avss g s.ln es) rfl (elemsV_ok hy) (okRaws_ok hc.2.1) hc.1 (by simpa [LK.av,avss_map] using h3) (by simp [TO.len,avss_map]) (by simp [TO.len,LK.av,avss_map]) ?_ h2
  simp only [TO.av,LK.av]
  rw [norefss_av (setO_ln s id _) _ hn,avss_map,avss_map,avss_map,List.map_append]
 ·cases h
theorem mksV_ok {g:Ge G} (hg:g.Ok) {s:DS G} {pl sz by':Nat} {z:List AV} {n:TV G} {c:TV G→DS G→Option R} {r:R} (h:mksV s pl sz z by' n c=some r):
 EvOk g s (match n.av g s.ln,n.av g s.ln with
  | .int .i64 n,.int .i64 m=>if n=m∧0≤n∧n*by'≤2 ^ 40∧n≤2 ^ 40∧z.length=sz∧allOne z=true then
   some (.own pl n.toNat 0 n.toNat,putObj (s.Hv g) pl (.live .norm sz (List.replicate n.toNat z))) else none
  | _,_=>none) c r:=by
 unfold mksV at h
 split at h
 case h_2=>cases h
 rename_i n
 split at h
 case h_2=>cases h
 rename_i p hp
 split at h
 case isFalse=>cases h
 rename_i hc
 have e:=Nat.eq_of_beq_eq_true hc
 subst e
 obtain ⟨l,h1,h2⟩:=bind_some h
 split at h2
 case isFalse=>cases h2
 rename_i hf
 unfold mkc at h1
 split at h1
 case isFalse=>cases h1
 rename_i hb
 injection h1 with h1;subst h1
 obtain ⟨e1,e2⟩:=tyC_ok (g:=g) hp
 obtain ⟨k1,k2,k3⟩:=newO_ok (g:=g) hf
 refine ⟨_,_,?_,k1,k2,h2⟩
 have e3:p.1.n g=1:=by
  have:=(encOk hg p.1).len p.2
  rw [←e1] at this;omega
 have e4:allOne z=true:=by rw [e1];exact (encOk hg p.1).one p.2
 simp only [TV.av]
 rw [if_pos ⟨trivial,hb.1,hb.2.1,hb.2.2,e2,e4⟩,k3,newO_self (fits_le hf)]
 simp only [TO.len,List.length_replicate,TO.av,e3,List.map_replicate,←e1]
def posOf:List (TV G)→Option (List AV)
 | []=>some []
 | .po id o::r=>(match posOf r with | some l=>some (.pown id 1 0 o::l) | none=>none)
 | _::_=>none
theorem posOf_ok {g:Ge G} {ln:Nat→Nat}:∀ {l:List (TV G)} {q:List AV},posOf l=some q→TV.avs g ln l=q
 | [],q,h=>by cases h;rfl
 | x::r,q,h=>by
  unfold posOf at h
  split at h
  ·rename_i e;cases e
  ·rename_i id o r' e
   injection e with e1 e2
   subst e1;subst e2
   split at h
   case h_2=>cases h
   rename_i m hm
   injection h with h;subst h
   rw [TV.avs,posOf_ok hm];rfl
  ·cases h
def ev (g:Ge G) (gl:Nat→List AV) (s:DS G) (pl:Nat) (op:RO) (c:TV G→DS G→Option R):Option R:=match op with
 | .mov x=>c (s.rx gl x) s
 | .pick p a b=>(match s.rx gl p with | .bool p=>pickV p (s.rx gl a) (s.rx gl b) fun v=>c v s | _=>none)
 | .box x=>boxV g s pl (s.rx gl x) c
 | .alloc z=>allocV s pl z c
 | .build z parts=>(match fillV g (ofAVs z) (parts.map fun p=>(p.1,p.2.1,s.rx gl p.2.2)) with | some l=>c (.agg l) s | none=>none)
 | .bsl sz z len parts=>bslV g s pl sz z len (parts.map fun p=>(p.1,s.rx gl p.2)) c
 | .load n ag a=>loadV g s.H n ag (s.rx gl a) fun v=>c v s
 | .store n a x=>storeV g s n (s.rx gl a) (s.rx gl x) c
 | .bin op x y=>binV op (s.rx gl x) (s.rx gl y) fun v=>c v s
 | .un op x=>unV op (s.rx gl x) fun v=>c v s
 | .eqA neg ks x y=>eqAV g neg ks (s.rx gl x) (s.rx gl y) fun v=>c v s
 | .eqB neg x y=>eqBV neg (s.rx gl x) (s.rx gl y) fun v=>c v s
 | .eqN neg x y=>eqNV s.H neg (s.rx gl x) (s.rx gl y) fun v=>c v s
 | .eqP neg x y=>eqPV neg (s.rx gl x) (s.rx gl y) fun v=>c v s
 | .nchk x=>(match s.rx gl x with
  | .optr t o=>o.bind fun v=>c (.pro ((view g t v).cells g)) s
  | y=>(match nchkV y with | some v=>c v s | none=>none))
 | .conv k x=>(match s.rx gl x with | .int _ n=>c (.int k (k.wrap n)) s | _=>none)
 | .fld off n ag x=>(match s.rx gl x with | .agg l=>(match partV n ag l off with | some v=>c v s | none=>none) | _=>none)
 | .fad off x=>(match fadV off (s.rx gl x) with | some v=>c v s | none=>none)
 | .iadS sz x i=>iadSV g s.H sz (s.rx gl x) (s.rx gl i) fun v=>c v s
 | .iadA len sz x i=>iadAV g s.H len sz (s.rx gl x) (s.rx gl i) fun v=>c v s
 | .idxA len n ag x i=>idxAV g len n ag (s.rx gl x) (s.rx gl i) fun v=>c v s
 | .idxS x i=>idxSV (s.rx gl x) (s.rx gl i) fun v=>c v s
 | .slc sz x lo hi=>slcV g sz (s.rx gl x) (lo.map (s.rx gl)) (hi.map (s.rx gl)) fun v=>c v s
 | .slcS x lo hi=>slcSV (s.rx gl x) (lo.map (s.rx gl)) (hi.map (s.rx gl)) fun v=>c v s
 | .slcA len sz x lo hi=>slcAV g s.H len sz (s.rx gl x) (lo.map (s.rx gl)) (hi.map (s.rx gl)) fun v=>c v s
 | .mkf f cap=>c (.fn f (cap.map (s.rx gl))) s
 | .mkb f l=>(match posOf (l.map (s.rx gl)) with | some q=>c (.raw (.bnd f q)) s | none=>none)
 | .mks sz z by' l m=>if sameX l m then mksV s pl sz z by' (s.rx gl l) c else none
 | .len st x=>lenV s.H st (s.rx gl x) fun v=>c v s
 | .app sz by' x y=>appV g s sz by' (s.rx gl x) (s.rx gl y) c
 | .mn l=>(match l.map (s.rx gl) with | x::r=>(match mnV false x r with | some v=>c v s | none=>none) | []=>none)
 | .mx l=>(match l.map (s.rx gl) with | x::r=>(match mnV true x r with | some v=>c v s | none=>none) | []=>none)
 | .ext x i=>(match s.rx gl x with | .tup l=>(match l[i]? with | some v=>c v s | none=>none) | _=>none)
 | .i2s x=>(match s.rx gl x with | .int _ n=>c (.str (Utf8.encode n).data.toList) s | _=>none)
 | _=>none
theorem ev_ok {g:Ge G} (hg:g.Ok) {gl:Nat→List AV} {s:DS G} {pl:Nat} {op:RO} {c:TV G→DS G→Option R} {r:R} (h:ev g gl s pl op c=some r):op.kind≠ .call∧EvOk g s (ev1 (evT gl (s.tm g)) pl op (s.Hv g)) c r:=by
 have P:∀ {op:RO} {w:TV G} {r:R},op.kind= .pure→evalPe (evT gl (s.tm g)) op=some (w.av g s.ln)→c w s=some r→op.kind≠ .call∧EvOk g s (ev1 (evT gl (s.tm g)) pl op (s.Hv g)) c r:=by
  intro op w r hk he hc
  refine ⟨by rw [hk];exact fun e=>(nomatch e),w,s,?_,rfl,rfl,hc⟩
  simp only [ev1,evalOpe,hk,he]
 have Rd:∀ {op:RO} {w:TV G} {r:R},op.kind= .read→evalRe (evT gl (s.tm g)) (s.Hv g) op=some (w.av g s.ln)→c w s=some r→op.kind≠ .call∧EvOk g s (ev1 (evT gl (s.tm g)) pl op (s.Hv g)) c r:=by
  intro op w r hk he hc
  refine ⟨by rw [hk];exact fun e=>(nomatch e),w,s,?_,rfl,rfl,hc⟩
  simp only [ev1,evalOpe,hk,he]
 have Wr:∀ {op:RO} {r:R},op.kind= .write→EvOk g s (evalWe (evT gl (s.tm g)) (s.Hv g) pl op) c r→op.kind≠ .call∧EvOk g s (ev1 (evT gl (s.tm g)) pl op (s.Hv g)) c r:=by
  intro op r hk he
  refine ⟨by rw [hk];exact fun e=>(nomatch e),?_⟩
  simp only [ev1,evalOpe,hk];exact he
 have rx:=DS.rx_av g gl s
 have rxo:∀ o:Option RX,o.map (evT gl (s.tm g))=(o.map (s.rx gl)).map (TV.av g s.ln):=by
  intro o;cases o with
  | none=>rfl
  | some x=>simp [rx]
 cases op<;>dsimp only [ev] at h
 case mov x=>exact P (op:= .mov x) rfl (by simp only [evalPe,rx]) h
 case pick p a b=>
  split at h
  case h_2=>cases h
  rename_i q hq
  obtain ⟨w,h1,h2⟩:=pickV_ok (g:=g) (ln:=s.ln) h
  refine P (w:=w) rfl ?_ h2
  simp only [evalPe,rx,hq,TV.av]
  rw [h1];cases q<;>rfl
 case box x=>
  refine Wr rfl ?_
  simp only [evalWe,rx];exact boxV_ok hg h
 case alloc z=>
  refine Wr rfl ?_
  simp only [evalWe];exact allocV_ok h
 case build z parts=>
  split at h
  case h_2=>cases h
  rename_i l hl
  have:=fillV_ok (g:=g) (ln:=s.ln) hl
  rw [ofAVs_av,List.map_map] at this
  refine P (w:= .agg l) rfl ?_ h
  simp only [evalPe,rx]
  rw [show (parts.map fun x=>(match x with | (o,n,x)=>(o,n,(s.rx gl x).av g s.ln):Nat×Nat×AV))=parts.map ((fun p=>(p.1,p.2.1,p.2.2.av g s.ln)) ∘ fun p=>(p.1,p.2.1,s.rx gl p.2.2)) from rfl,this];rfl
 case bsl sz z len parts=>
  refine Wr rfl ?_
  have:=bslV_ok (g:=g) hg h
  rw [List.map_map] at this
  simp only [evalWe,rx];exact this
 case load n ag a=>
  obtain ⟨w,h1,h2⟩:=loadV_ok hg h
  exact Rd rfl (by simp only [evalRe,rx];exact h1) h2
 case store n a x=>
  refine Wr rfl ?_
  simp only [evalWe,rx];exact storeV_ok hg h
 case bin op x y=>
  obtain ⟨w,h1,h2⟩:=binV_ok (g:=g) (ln:=s.ln) h
  exact P (w:=w) rfl (by simp only [evalPe,rx];exact h1) h2
 case un op x=>
  obtain ⟨w,h1,h2⟩:=unV_ok (g:=g) (ln:=s.ln) h
  exact P (w:=w) rfl (by simp only [evalPe,rx];exact h1) h2
 case eqA neg ks x y=>
  obtain ⟨w,h1,h2⟩:=eqAV_ok hg (ln:=s.ln) h
  exact P (w:=w) rfl (by simp only [evalPe,rx];exact h1) h2
 case eqB neg x y=>
  unfold eqBV at h
  split at h
  case h_2=>cases h
  rename_i a b h1 h2
  exact P (w:= .bool _) rfl (by simp only [evalPe,rx,h1,h2];rfl) h
 case eqN neg x y=>
  obtain ⟨w,h1,h2⟩:=eqNV_ok (g:=g) h
  exact Rd rfl (by simp only [evalRe,rx];exact h1) h2
 case eqP neg x y=>
  unfold eqPV at h
  split at h
  case h_2=>cases h
  rename_i hy
  split at h
  case h_2=>cases h
  rename_i b hb
  refine P (w:= .bool _) rfl ?_ h
  simp only [evalPe,rx,hy,TV.av]
  show (match (s.rx gl x).av g s.ln,AV.nilp with
   | x,.nilp=>(match isNilP x with | some b=>some (AV.bool (b !=neg)) | none=>none)
   | .nilp,y=>(match isNilP y with | some b=>some (AV.bool (b !=neg)) | none=>none)
   | _,_=>none)=_
  dsimp only
  rw [nilPV_ok hb]
 case nchk x=>
  split at h
  ·rename_i t o ho
   obtain ⟨v,h1,h2⟩:=bind_some h
   subst h1
   refine P (w:= .pro ((view g t v).cells g)) rfl ?_ h2
   simp only [evalPe,rx,ho]
   show nchk (AV.pro (enc g t v))=some (AV.pro (TV.avs g s.ln ((view g t v).cells g)))
   rw [view_avs hg];rfl
  ·split at h
   case h_2=>cases h
   rename_i v hv
   refine P (w:=v) rfl ?_ h
   simp only [evalPe,rx]
   unfold nchkV at hv
   split at hv<;>first | (injection hv with hv;subst hv;rename_i e;rw [e];rfl) | cases hv
 case conv k x=>
  split at h
  case h_2=>cases h
  rename_i k' n hx
  exact P (w:= .int k _) rfl (by simp only [evalPe,rx,hx,TV.av]) h
 case fld off n ag x=>
  split at h
  case h_2=>cases h
  rename_i l hx
  split at h
  case h_2=>cases h
  rename_i v hv
  exact P (w:=v) rfl (by simp only [evalPe,rx,hx,TV.av];exact partV_ok hv) h
 case fad off x=>
  split at h
  case h_2=>cases h
  rename_i v hv
  exact P (w:=v) rfl (by simp only [evalPe,rx];exact fadV_ok hv) h
 case iadS sz x i=>
  obtain ⟨w,h1,h2⟩:=iadSV_ok hg h
  exact Rd rfl (by simp only [evalRe,rx];exact h1) h2
 case iadA len sz x i=>
  obtain ⟨w,h1,h2⟩:=iadAV_ok (g:=g) (ln:=s.ln) h
  exact P (w:=w) rfl (by simp only [evalPe,rx];exact h1) h2
 case idxA len n ag x i=>
  obtain ⟨w,h1,h2⟩:=idxAV_ok hg (ln:=s.ln) h
  exact P (w:=w) rfl (by simp only [evalPe,rx];exact h1) h2
 case idxS x i=>
  obtain ⟨w,h1,h2⟩:=idxSV_ok (g:=g) (ln:=s.ln) h
  exact P (w:=w) rfl (by simp only [evalPe,rx];exact h1) h2
 case slc sz x lo hi=>
  obtain ⟨w,h1,h2⟩:=slcV_ok hg (s:=s) h
  exact Rd rfl (by simp only [evalRe,rx,rxo];exact h1) h2
 case slcS x lo hi=>
  obtain ⟨w,h1,h2⟩:=slcSV_ok (g:=g) (ln:=s.ln) h
  exact P (w:=w) rfl (by simp only [evalPe,rx,rxo];exact h1) h2
 case slcA len sz x lo hi=>
  obtain ⟨w,h1,h2⟩:=slcAV_ok hg h
  exact Rd rfl (by simp only [evalRe,rx,rxo];exact h1) h2
 case mkf f cap=>exact P (w:= .fn f _) rfl (by simp only [evalPe,DS.rxs_av];rfl) h
 case mkb f l=>
  split at h
  case h_2=>cases h
  rename_i q hq
  exact P (w:= .raw (.bnd f q)) rfl (by simp only [evalPe,DS.rxs_av];rw [posOf_ok hq];rfl) h
 case mks sz z by' l m=>
  split at h
  case isFalse=>cases h
  rename_i hs
  have e:=sameX_ok hs
  subst e
  refine Wr rfl ?_
  simp only [evalWe,rx];exact mksV_ok hg h
 case len st x=>
  obtain ⟨w,h1,h2⟩:=lenV_ok (g:=g) h
  exact P (w:=w) rfl (by simp only [evalPe,rx];exact h1) h2
 case app sz by' x y=>
  refine Wr rfl ?_
  simp only [evalWe,rx];exact appV_ok hg h
 case mn l=>
  split at h
  case h_2=>cases h
  rename_i x r' hl
  split at h
  case h_2=>cases h
  rename_i v hv
  refine P (w:=v) rfl ?_ h
  simp only [evalPe,DS.rxs_av,hl,TV.avs]
  exact mnV_ok (mx:=false) hv
 case mx l=>
  split at h
  case h_2=>cases h
  rename_i x r' hl
  split at h
  case h_2=>cases h
  rename_i v hv
  refine P (w:=v) rfl ?_ h
  simp only [evalPe,DS.rxs_av,hl,TV.avs]
  exact mnV_ok (mx:=true) hv
 case ext x i=>
  split at h
  case h_2=>cases h
  rename_i l hx
  split at h
  case h_2=>cases h
  rename_i v hv
  refine P (w:=v) rfl ?_ h
  simp only [evalPe,rx,hx,TV.av,avs_map,List.getElem?_map,hv];rfl
 case i2s x=>
  split at h
  case h_2=>cases h
  rename_i k' n hx
  exact P (w:= .str _) rfl (by simp only [evalPe,rx,hx,TV.av];rfl) h
 all_goals cases h
end
end Dnm
end
section
namespace Dnm
open Go hiding Obj mark
open Go.Pl Go.Am Go.Am.As
set_option linter.unusedVariables false
section
variable {G:Nat→Type} {R:Type}
mutual
def TV.free:TV G→Bool
 | .agg l=>TV.frees l
 | .tup l=>TV.frees l
 | .fn _ l=>TV.frees l
 | .po .. | .own _ | .pe .. | .pa .. | .sa ..=>false
 | .raw v=>v.bel 0
 | _=>true
def TV.frees:List (TV G)→Bool
 | []=>true
 | x::xs=>x.free&&TV.frees xs
end
mutual
theorem free_bel {g:Ge G} (hg:g.Ok) (ln:Nat→Nat):∀ v:TV G,v.free=true→(v.av g ln).bel 0=true
 | .agg l,h=>frees_bel hg ln l h
 | .tup l,h=>frees_bel hg ln l h
 | .fn _ l,h=>frees_bel hg ln l h
 | .int _ _,_ | .bool _,_ | .str _,_ | .lst _ _,_ | .rol _,_ | .pro _,_=>rfl
 | .olst t o,_=>by cases o<;>rfl
 | .optr t o,_=>by cases o<;>rfl
 | .arr n t a,_=>(encOk hg (.arr n t)).bel a
 | .raw v,h=>h
 | .po ..,h | .own _,h | .pe ..,h | .pa ..,h | .sa ..,h=>by cases h
theorem frees_bel {g:Ge G} (hg:g.Ok) (ln:Nat→Nat):∀ l:List (TV G),TV.frees l=true→AV.bels 0 (TV.avs g ln l)=true
 | [],_=>rfl
 | x::l,h=>by
  simp only [TV.frees,Bool.and_eq_true] at h
  simp only [TV.avs,AV.bels,free_bel hg ln x h.1,frees_bel hg ln l h.2,Bool.and_self]
end
def freess:List (List (TV G))→Bool
 | []=>true
 | x::xs=>TV.frees x&&freess xs
theorem freess_bel {g:Ge G} (hg:g.Ok) (ln:Nat→Nat):∀ l:List (List (TV G)),freess l=true→AV.belss 0 (TV.avss g ln l)=true
 | [],_=>rfl
 | x::l,h=>by
  simp only [freess,Bool.and_eq_true] at h
  simp only [TV.avss,AV.belss,frees_bel hg ln x h.1,freess_bel hg ln l h.2,Bool.and_self]
def pkmV (f:TV G→Option (TV G)):List (TV G)→Option (List (TV G))
 | []=>some []
 | x::xs=>(match f x with
  | some y=>(match pkmV f xs with | some ys=>some (y::ys) | none=>none)
  | none=>none)
def pkcV (f:TV G→Option (TV G)) (H:List (TO G)):TV G→Option (TV G)
 | .po id o=>(match H[id]? with
  | some (.box cs)=>(match pkmV f (cs.drop o) with | some l=>some (.pro l) | none=>none)
  | _=>none)
 | v=>f v
def pkV (H:List (TO G)):Nat→TV G→Option (TV G)
 | 0,v=>if v.free then some v else none
 | d+1,v=>if v.free then some v else match v with
  | .own id=>(match H[id]? with
   | some (.lst fl t l)=>some (.lst t l)
   | some (.raws fl sz es)=>if freess es then some (.rol es) else none
   | _=>none)
  | .sa id lo len m _=>(match H[id]? with
   | some (.arr n t a)=>if t= .bool∧m=n then some (.lst t ((a.1.drop lo).take len)) else none
   | _=>none)
  | .agg l=>(match pkmV (pkV H d) l with | some l=>some (.agg l) | none=>none)
  | .tup l=>(match pkmV (pkV H d) l with | some l=>some (.tup l) | none=>none)
  | .fn f l=>(match pkmV (pkcV (pkV H d) H) l with | some l=>some (.fn f l) | none=>none)
  | _=>none
theorem pkmV_ok {g:Ge G} {ln:Nat→Nat} {f:TV G→Option (TV G)} {p:AV→Option AV} (h:∀ x y,f x=some y→p (x.av g ln)=some (y.av g ln)):∀ {l m:List (TV G)},pkmV f l=some m→mapO p (TV.avs g ln l)=some (TV.avs g ln m)
 | [],m,e=>by injection e with e;subst e;rfl
 | x::l,m,e=>by
  rw [pkmV] at e
  split at e
  case h_2=>cases e
  rename_i y hy
  split at e
  case h_2=>cases e
  rename_i ys hys
  injection e with e;subst e
  simp only [TV.avs,mapO,h _ _ hy,pkmV_ok h hys]
theorem mapOO_id {p:AV→Option AV} (hp:∀ a,a.bel 0=true→p a=some a):∀ {es:List (List AV)},AV.belss 0 es=true→mapOO p es=some es
 | [],_=>rfl
 | e::r,h=>by
  simp only [AV.belss,Bool.and_eq_true] at h
  have h1:∀ {l:List AV},AV.bels 0 l=true→mapO p l=some l:=by
   intro l
   induction l with
   | nil=>intro _;rfl
   | cons a l ih=>
    intro h
    simp only [AV.bels,Bool.and_eq_true] at h
    simp only [mapO,hp a h.1,ih h.2]
  simp only [mapOO,h1 h.1,mapOO_id hp h.2]
theorem saB {H:List Obj} {id n sz lo len:Nat} (a:Arr n Bool) (hH:H[id]?=some (.live .norm sz [(a.1.map fun b=>[AV.bool b]).flatten])) (hc:lo+len≤n) (d:Nat):
 (match arrElems H id 1 0 lo 1 len with | some l=>(match mapOO (pk d H) l with | some l'=>some (AV.ro l') | none=>none) | none=>none)=some (.ro (((a.1.drop lo).take len).map fun b=>[AV.bool b])):=by
 have hn:=a.2
 rw [flat1 (f:=AV.bool)] at hH
 simp only [arrElems,getLive,hH,List.length_singleton,if_true,List.getElem?_cons_zero,List.length_map,hn,Nat.mul_one]
 rw [if_pos hc,←List.map_drop,slc_arr_pk (C:=fun b=>[AV.bool b]) (fun _=>rfl) len _ (by rw [List.length_drop,hn];omega)]
 dsimp only
 rw [mapOO_map (C:=fun b=>[AV.bool b]) (fun _=>rfl)]
theorem pkV_ok {g:Ge G} (hg:g.Ok) {s:DS G}:∀ (d:Nat) {v w:TV G},pkV s.H d v=some w→pk d (s.Hv g) (v.av g s.ln)=some (w.av g s.ln)
 | 0,v,w,h=>by
  unfold pkV at h
  split at h
  ·rename_i hf;injection h with h;subst h;exact pk_free (free_bel hg _ _ hf)
  ·cases h
 | d+1,v,w,h=>by
  unfold pkV at h
  split at h
  ·rename_i hf;injection h with h;subst h;exact pk_free (free_bel hg _ _ hf)
  rename_i hf
  have nb:∀ {a:AV} {r:Option AV},(∀ (b:AV),a.bel 0=true→r=some b→b=a)→r.isSome=true→(match a with
   | .own id ext off len=>
    (match getLive (s.Hv g) id with
     | some (_,es)=>if ext=es.length then
      (match mapOO (pk d (s.Hv g)) ((es.drop off).take len) with | some l=>some (roOf (nlAt (s.Hv g) id) es l) | none=>none)
      else none
     | none=>none)
   | .arr id ext e o sz len=>
    (match arrElems (s.Hv g) id ext e o sz len with
     | some l=>(match mapOO (pk d (s.Hv g)) l with | some l'=>some (AV.ro l') | none=>none)
     | none=>none)
   | .agg cs=>(match mapO (pk d (s.Hv g)) cs with | some l=>some (.agg l) | none=>none)
   | .tup cs=>(match mapO (pk d (s.Hv g)) cs with | some l=>some (.tup l) | none=>none)
   | .fn f cap=>(match mapO (pkc (pk d (s.Hv g)) (s.Hv g)) cap with | some l=>some (.fn f l) | none=>none)
   | _=>none)=r→pk (d+1) (s.Hv g) a=r:=by
   intro a r hid hs he
   unfold pk
   split
   ·rename_i hb
    cases r with
    | none=>cases hs
    | some b=>rw [hid b hb rfl]
   ·exact he
  have mid:∀ {l m:List AV} {p:AV→Option AV},(∀ a,a.bel 0=true→p a=some a)→AV.bels 0 l=true→mapO p l=some m→m=l:=by
   intro l
   induction l with
   | nil=>intro m p _ _ h;injection h with h;exact h.symm
   | cons a l ih=>
    intro m p hp hb h
    simp only [AV.bels,Bool.and_eq_true] at hb
    rw [mapO,hp a hb.1] at h
    split at h
    case h_2=>cases h
    rename_i y ys h1 h2
    injection h1 with h1;subst h1
    injection h with h;subst h
    rw [ih hp hb.2 h2]
  split at h
  ·rename_i id
   split at h
   ·rename_i fl t l hid
    injection h with h;subst h
    refine nb (r:=some (.ro (l.map (enc g t)))) (fun b hb=>?_) rfl ?_
    ·simp [TV.av,AV.bel] at hb
    ·simp only [TV.av,getLive,Hv_get hid,TO.av,setN_lst hid,List.length_map,if_true,List.drop_zero]
     rw [List.take_of_length_le (by simp),mapOO_map (encOk hg t).bel l];rfl
   ·rename_i fl sz es hid
    split at h
    case isFalse=>cases h
    rename_i hfr
    injection h with h;subst h
    have e:s.ln id=es.length:=by unfold DS.ln lnH;rw [hid];rfl
    refine nb (r:=some (.ro (TV.avss g s.ln es))) (fun b hb=>?_) rfl ?_
    ·simp [TV.av,AV.bel] at hb
    ·simp only [TV.av,getLive,Hv_get hid,TO.av,e]
     have hl:(TV.avss g s.ln es).length=es.length:=by rw [avss_map,List.length_map]
     rw [if_pos hl.symm,List.drop_zero,List.take_of_length_le (by rw [hl];exact Nat.le_refl _),mapOO_id (fun a ha=>pk_free ha) (freess_bel hg s.ln es hfr)];rfl
   ·cases h
  ·rename_i id lo len m hm
   split at h
   case h_2=>cases h
   rename_i n t a hid
   split at h
   case isFalse=>cases h
   rename_i hc
   obtain ⟨rfl,hc⟩:=hc
   subst hc
   injection h with h;subst h
   rw [show (TV.sa id lo len _ hm:TV G).av g s.ln=if len=0 then .ro [] else .arr id 1 0 lo 1 len from rfl]
   by_cases h0:len=0
   ·subst h0
    rw [if_pos rfl]
    exact pk_free (v:=AV.ro []) rfl
   ·rw [if_neg h0]
    refine nb (r:=some _) (fun b hb=>?_) rfl ?_
    ·simp [AV.bel] at hb
    ·exact saB (show Arr _ Bool from a) (Hv_get hid) hm d
  ·rename_i l
   split at h
   case h_2=>cases h
   rename_i m hm
   injection h with h;subst h
   have h1:=pkmV_ok (g:=g) (ln:=s.ln) (fun x y e=>pkV_ok hg d e) hm
   refine nb (r:=some (.agg (TV.avs g s.ln m))) (fun b hb e=>?_) rfl (by simp only [TV.av,h1])
   injection e with e;subst e
   show AV.agg _=AV.agg _
   rw [mid (fun a ha=>pk_free ha) hb h1]
  ·rename_i l
   split at h
   case h_2=>cases h
   rename_i m hm
   injection h with h;subst h
   have h1:=pkmV_ok (g:=g) (ln:=s.ln) (fun x y e=>pkV_ok hg d e) hm
   refine nb (r:=some (.tup (TV.avs g s.ln m))) (fun b hb e=>?_) rfl (by simp only [TV.av,h1])
   injection e with e;subst e
   show AV.tup _=AV.tup _
   rw [mid (fun a ha=>pk_free ha) hb h1]
  ·rename_i f l
   split at h
   case h_2=>cases h
   rename_i m hm
   injection h with h;subst h
   have h1:=pkmV_ok (g:=g) (ln:=s.ln) (p:=pkc (pk d (s.Hv g)) (s.Hv g)) (fun x y e=>by
    unfold pkcV at e
    split at e
    ·rename_i id o
     split at e
     case h_2=>cases e
     rename_i cs hid
     split at e
     case h_2=>cases e
     rename_i l' hl'
     injection e with e;subst e
     have h2:=pkmV_ok (g:=g) (ln:=s.ln) (fun x y e=>pkV_ok hg d e) hl'
     simp only [TV.av,pkc,getLive,Hv_get hid,TO.av,List.length_singleton,if_true,List.getElem?_cons_zero]
     rw [show (TV.avs g s.ln cs).drop o=TV.avs g s.ln (cs.drop o) by rw [avs_map,avs_map,List.map_drop],h2]
    ·rename_i hne
     have h3:=pkV_ok hg d e
     unfold pkc
     split
     ·rename_i id ext e' o' ea
      have:pk d (s.Hv g) (.pown id ext e' o')=none:=by
       cases d with
       | zero=>unfold pk;rw [if_neg (by simp [AV.refFree,AV.bel])]
       | succ d=>unfold pk;rw [if_neg (by simp [AV.refFree,AV.bel])]
      rw [ea,this] at h3;cases h3
     ·exact h3) hm
   refine nb (r:=some (.fn f (TV.avs g s.ln m))) (fun b hb e=>?_) rfl (by simp only [TV.av,h1])
   injection e with e;subst e
   show AV.fn _ _=AV.fn _ _
   congr 1
   refine mid (p:=pkc (pk d (s.Hv g)) (s.Hv g)) (fun a ha=>?_) hb h1
   unfold pkc
   split
   ·simp [AV.bel] at ha
   ·exact pk_free ha
  ·cases h
end
end Dnm
end
