/- Typed states: values handed over, shapes of states. No condition. -/
import Derived.Test.YtafgdbaekppjcaaGreatDoorDnD
set_option linter.unusedSectionVars false
set_option linter.unusedVariables false
set_option linter.unusedSimpArgs false
namespace nT
open Go hiding Obj mark
open Go.Pl Go.Am Go.Am.As
set_option linter.unusedVariables false
section
variable {G:Nat->Type} {R:Type}
mutual
def TV.free:TV G->Bool
 | .agg l=>TV.lD l
 | .bk l=>TV.lD l
 | .fn _ l=>TV.lD l
 | .po .. | .own _ | .pe .. | .pa .. | .sa ..=>false
 | .raw v=>v.bA 0
 | _=>true
def TV.lD:List (TV G)->Bool
 | []=>true
 | x::xs=>x.free&&TV.lD xs
end
mutual
theorem mG {g:Ge G} (hg:g.Ok) (ln:Nat->Nat):∀ v:TV G,v.free=true->(v.av g ln).bA 0=true
 | .agg l,h=>er hg ln l h
 | .bk l,h=>er hg ln l h
 | .fn _ l,h=>er hg ln l h
 | .int _ _,_ | .bool _,_ | .str _,_ | .bg _ _,_ | .oY _,_ | .bV _,_=>rfl
 | .fS t o,_=>by cases o<;>rfl
 | .dB t o,_=>by cases o<;>rfl
 | .arr n t a,_=>(cR hg (.arr n t)).bA a
 | .raw v,h=>h
 | .po ..,h | .own _,h | .pe ..,h | .pa ..,h | .sa ..,h=>by cases h
theorem er {g:Ge G} (hg:g.Ok) (ln:Nat->Nat):∀ l:List (TV G),TV.lD l=true->AV.aS 0 (TV.aR g ln l)=true
 | [],_=>rfl
 | x::l,h=>by
  simp only [TV.lD,Bool.and_eq_true] at h;simp only [TV.aR,AV.aS,mG hg ln x h.1,er hg ln l h.2,Bool.and_self]
end
def jb:List (List (TV G))->Bool
 | []=>true
 | x::xs=>TV.lD x&&jb xs
theorem fy {g:Ge G} (hg:g.Ok) (ln:Nat->Nat):∀ l:List (List (TV G)),jb l=true->AV.bM 0 (TV.cU g ln l)=true
 | [],_=>rfl
 | x::l,h=>by
  simp only [jb,Bool.and_eq_true] at h;simp only [TV.cU,AV.bM,er hg ln x h.1,fy hg ln l h.2,Bool.and_self]
def od (f:TV G->Option (TV G)):List (TV G)->Option (List (TV G))
 | []=>some []
 | x::xs=>(match f x with
  | some y=>(match od f xs with | some ys=>some (y::ys) | none=>none)
  | none=>none)
def T2 (f:TV G->Option (TV G)) (H:List (TO G)):TV G->Option (TV G)
 | .po id o=>(match H[id]? with
  | some (.box cs)=>(match od f (cs.drop o) with | some l=>some (.bV l) | none=>none)
  | _=>none)
 | v=>f v
def z9 (H:List (TO G)):Nat->TV G->Option (TV G)
 | 0,v=>if v.free then some v else none
 | d+1,v=>if v.free then some v else match v with
  | .own id=>(match H[id]? with
   | some (.bg fl t l)=>some (.bg t l)
   | some (.cN fl sz es)=>if jb es then some (.oY es) else none
   | _=>none)
  | .sa id lo len m _=>(match H[id]? with
   | some (.arr n t a)=>if t= .bool/\m=n then some (.bg t ((a.1.drop lo).take len)) else none
   | _=>none)
  | .agg l=>(match od (z9 H d) l with | some l=>some (.agg l) | none=>none)
  | .bk l=>(match od (z9 H d) l with | some l=>some (.bk l) | none=>none)
  | .fn f l=>(match od (T2 (z9 H d) H) l with | some l=>some (.fn f l) | none=>none)
  | _=>none
theorem m0 {g:Ge G} {ln:Nat->Nat} {f:TV G->Option (TV G)} {p:AV->Option AV} (h:∀ x y,f x=some y->p (x.av g ln)=some (y.av g ln)):∀ {l m:List (TV G)},od f l=some m->eR p (TV.aR g ln l)=some (TV.aR g ln m)
 | [],m,e=>by injection e with e;subst e;rfl
 | x::l,m,e=>by
  rw [od] at e;split at e
  case h_2=>cases e
  rename_i y hy;split at e
  case h_2=>cases e
  rename_i ys hys;injection e with e;subst e
  simp only [TV.aR,eR,h _ _ hy,m0 h hys]
theorem p5 {p:AV->Option AV} (hp:∀ a,a.bA 0=true->p a=some a):∀ {es:List (List AV)},AV.bM 0 es=true->fV p es=some es
 | [],_=>rfl
 | e::r,h=>by
  simp only [AV.bM,Bool.and_eq_true] at h;have h1:∀ {l:List AV},AV.aS 0 l=true->eR p l=some l:=by
   intro l;induction l with
   | nil=>intro _;rfl
   | cons a l ih=>
    intro h;simp only [AV.aS,Bool.and_eq_true] at h;simp only [eR,hp a h.1,ih h.2]
  simp only [fV,h1 h.1,p5 hp h.2]
theorem saB {H:List Obj} {id n sz lo len:Nat} (a:eJ n Bool) (hH:H[id]?=some (.live .norm sz [(a.1.map fun b=>[AV.bool b]).flatten])) (hc:lo+len<=n) (d:Nat):
 (match gX H id 1 0 lo 1 len with | some l=>(match fV (pk d H) l with | some l'=>some (AV.ro l') | none=>none) | none=>none)=some (.ro (((a.1.drop lo).take len).map fun b=>[AV.bool b])):=by
 have hn:=a.2;rw [wZ (f:=AV.bool)] at hH;simp only [gX,aH,hH,List.length_singleton,if_true,List.getElem?_cons_zero,List.length_map,hn,Nat.mul_one];rw [if_pos hc,<-List.map_drop,vA (C:=fun b=>[AV.bool b]) (fun _=>rfl) len _ (by rw [List.length_drop,hn];omega)];dsimp only;rw [ru (C:=fun b=>[AV.bool b]) (fun _=>rfl)]
theorem kS {g:Ge G} (hg:g.Ok) {s:DS G}:∀ (d:Nat) {v w:TV G},z9 s.H d v=some w->pk d (s.Hv g) (v.av g s.ln)=some (w.av g s.ln)
 | 0,v,w,h=>by
  unfold z9 at h;split at h
  ·rename_i hf;injection h with h;subst h;exact iy (mG hg _ _ hf)
  ·cases h
 | d+1,v,w,h=>by
  unfold z9 at h;split at h
  ·rename_i hf;injection h with h;subst h;exact iy (mG hg _ _ hf)
  rename_i hf;have nb:∀ {a:AV} {r:Option AV},(∀ (b:AV),a.bA 0=true->r=some b->b=a)->r.isSome=true->(match a with
   | .own id ext off len=>
    (match aH (s.Hv g) id with
     | some (_,es)=>if ext=es.length then
      (match fV (pk d (s.Hv g)) ((es.drop off).take len) with | some l=>some (qJ (cw (s.Hv g) id) es l) | none=>none)
      else none
     | none=>none)
   | .arr id ext e o sz len=>
    (match gX (s.Hv g) id ext e o sz len with
     | some l=>(match fV (pk d (s.Hv g)) l with | some l'=>some (AV.ro l') | none=>none)
     | none=>none)
   | .agg cs=>(match eR (pk d (s.Hv g)) cs with | some l=>some (.agg l) | none=>none)
   | .bk cs=>(match eR (pk d (s.Hv g)) cs with | some l=>some (.bk l) | none=>none)
   | .fn f cap=>(match eR (Lv (pk d (s.Hv g)) (s.Hv g)) cap with | some l=>some (.fn f l) | none=>none)
   | _=>none)=r->pk (d+1) (s.Hv g) a=r:=by
   intro a r hid hs he;unfold pk;split
   ·rename_i hb
    cases r with
    | none=>cases hs
    | some b=>rw [hid b hb rfl]
   ·exact he
  have mid:∀ {l m:List AV} {p:AV->Option AV},(∀ a,a.bA 0=true->p a=some a)->AV.aS 0 l=true->eR p l=some m->m=l:=by
   intro l;induction l with
   | nil=>intro m p _ _ h;injection h with h;exact h.symm
   | cons a l ih=>
    intro m p hp hb h;simp only [AV.aS,Bool.and_eq_true] at hb;rw [eR,hp a hb.1] at h;split at h
    case h_2=>cases h
    rename_i y ys h1 h2;injection h1 with h1;subst h1
    injection h with h;subst h
    rw [ih hp hb.2 h2]
  split at h
  ·rename_i id;split at h
   ·rename_i fl t l hid;injection h with h;subst h
    refine nb (r:=some (.ro (l.map (enc g t)))) (fun b hb=>?_) rfl ?_
    ·simp [TV.av,AV.bA] at hb
    ·simp only [TV.av,aH,bp hid,TO.av,kn hid,List.length_map,if_true,List.drop_zero];rw [List.take_of_length_le (by simp),ru (cR hg t).bA l];rfl
   ·rename_i fl sz es hid;split at h
    case isFalse=>cases h
    rename_i hfr;injection h with h;subst h
    have e:s.ln id=es.length:=by unfold DS.ln jD;rw [hid];rfl
    refine nb (r:=some (.ro (TV.cU g s.ln es))) (fun b hb=>?_) rfl ?_
    ·simp [TV.av,AV.bA] at hb
    ·simp only [TV.av,aH,bp hid,TO.av,e];have hl:(TV.cU g s.ln es).length=es.length:=by rw [bl,List.length_map]
     rw [if_pos hl.symm,List.drop_zero,List.take_of_length_le (by rw [hl];exact Nat.le_refl _),p5 (fun a ha=>iy ha) (fy hg s.ln es hfr)];rfl
   ·cases h
  ·rename_i id lo len m hm;split at h
   case h_2=>cases h
   rename_i n t a hid;split at h
   case isFalse=>cases h
   rename_i hc;obtain ⟨rfl,hc⟩:=hc;subst hc;injection h with h;subst h
   rw [show (TV.sa id lo len _ hm:TV G).av g s.ln=if len=0 then .ro [] else .arr id 1 0 lo 1 len from rfl];by_cases h0:len=0
   ·subst h0;rw [if_pos rfl];exact iy (v:=AV.ro []) rfl
   ·rw [if_neg h0];refine nb (r:=some _) (fun b hb=>?_) rfl ?_
    ·simp [AV.bA] at hb
    ·exact saB (show eJ _ Bool from a) (bp hid) hm d
  ·rename_i l;split at h
   case h_2=>cases h
   rename_i m hm;injection h with h;subst h
   have h1:=m0 (g:=g) (ln:=s.ln) (fun x y e=>kS hg d e) hm;refine nb (r:=some (.agg (TV.aR g s.ln m))) (fun b hb e=>?_) rfl (by simp only [TV.av,h1]);injection e with e;subst e
   show AV.agg _=AV.agg _;rw [mid (fun a ha=>iy ha) hb h1]
  ·rename_i l;split at h
   case h_2=>cases h
   rename_i m hm;injection h with h;subst h
   have h1:=m0 (g:=g) (ln:=s.ln) (fun x y e=>kS hg d e) hm;refine nb (r:=some (.bk (TV.aR g s.ln m))) (fun b hb e=>?_) rfl (by simp only [TV.av,h1]);injection e with e;subst e
   show AV.bk _=AV.bk _;rw [mid (fun a ha=>iy ha) hb h1]
  ·rename_i f l;split at h
   case h_2=>cases h
   rename_i m hm;injection h with h;subst h
   have h1:=m0 (g:=g) (ln:=s.ln) (p:=Lv (pk d (s.Hv g)) (s.Hv g)) (fun x y e=>by
    unfold T2 at e;split at e
    ·rename_i id o;split at e
     case h_2=>cases e
     rename_i cs hid;split at e
     case h_2=>cases e
     rename_i l' hl';injection e with e;subst e
     have h2:=m0 (g:=g) (ln:=s.ln) (fun x y e=>kS hg d e) hl';simp only [TV.av,Lv,aH,bp hid,TO.av,List.length_singleton,if_true,List.getElem?_cons_zero];rw [show (TV.aR g s.ln cs).drop o=TV.aR g s.ln (cs.drop o) by rw [bX,bX,List.map_drop],h2]
    ·rename_i hne;have h3:=kS hg d e;unfold Lv;split
     ·rename_i id ext e' o' ea;have:pk d (s.Hv g) (.ax id ext e' o')=none:=by
       cases d with
       | zero=>unfold pk;rw [if_neg (by simp [AV.eS,AV.bA])]
       | succ d=>unfold pk;rw [if_neg (by simp [AV.eS,AV.bA])]
      rw [ea,this] at h3;cases h3
     ·exact h3) hm
   refine nb (r:=some (.fn f (TV.aR g s.ln m))) (fun b hb e=>?_) rfl (by simp only [TV.av,h1]);injection e with e;subst e
   show AV.fn _ _=AV.fn _ _;congr 1;refine mid (p:=Lv (pk d (s.Hv g)) (s.Hv g)) (fun a ha=>?_) hb h1;unfold Lv;split
   ·simp [AV.bA] at ha
   ·exact iy ha
  ·cases h
end
end nT
