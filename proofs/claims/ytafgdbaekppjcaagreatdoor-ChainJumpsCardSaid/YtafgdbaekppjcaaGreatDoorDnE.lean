/- Typed states: values handed over, shapes of states. No condition. -/
import Derived.Test.YtafgdbaekppjcaaGreatDoorDnD
set_option linter.unusedSectionVars false
set_option linter.unusedVariables false
set_option linter.unusedSimpArgs false
namespace oe
open Go hiding Obj mark
open Go.Pl Go.Am Go.Am.As
section
variable {G:Nat->Type} {R:Type}
mutual
def TV.free:TV G->Bool
 | .agg l=>TV.mS l
 | .aY l=>TV.mS l
 | .fn _ l=>TV.mS l
 | .po .. | .own _ | .pe .. | .pa .. | .sa ..=>false
 | .raw v=>v.bD 0
 | _=>true
def TV.mS:List (TV G)->Bool
 | []=>true
 | x::xs=>x.free&&TV.mS xs
end
mutual
theorem lC {g:Ge G} (hg:g.Ok) (ln:Nat->Nat):∀ v:TV G,v.free=true->(v.av g ln).bD 0=true
 | .agg l,h=>eG hg ln l h
 | .aY l,h=>eG hg ln l h
 | .fn _ l,h=>eG hg ln l h
 | .int _ _,_ | .bool _,_ | .str _,_ | .aQ _ _,_ | .o4 _,_ | .bR _,_=>rfl
 | .gr t o,_=>by cases o<;>rfl
 | .dO t o,_=>by cases o<;>rfl
 | .arr n t a,_=>(cT hg (.arr n t)).bD a
 | .raw v,h=>h
 | .po ..,h | .own _,h | .pe ..,h | .pa ..,h | .sa ..,h=>by cases h
theorem eG {g:Ge G} (hg:g.Ok) (ln:Nat->Nat):∀ l:List (TV G),TV.mS l=true->AV.aR 0 (TV.aP g ln l)=true
 | [],_=>rfl
 | x::l,h=>by
  simp only [TV.mS,za0] at h;simp only [TV.aP,AV.aR,lC hg ln x h.1,eG hg ln l h.2,zbM]
end
def jK:List (List (TV G))->Bool
 | []=>true
 | x::xs=>TV.mS x&&jK xs
theorem fR {g:Ge G} (hg:g.Ok) (ln:Nat->Nat):∀ l:List (List (TV G)),jK l=true->AV.bO 0 (TV.cV g ln l)=true
 | [],_=>rfl
 | x::l,h=>by
  simp only [jK,za0] at h;simp only [TV.cV,AV.bO,eG hg ln x h.1,fR hg ln l h.2,zbM]
def pH (f:TV G->Option (TV G)):List (TV G)->Option (List (TV G))
 | []=>some []
 | x::xs=>(match f x with
  | some y=>(match pH f xs with | some ys=>some (y::ys) | none=>none)
  | none=>none)
def Ze (f:TV G->Option (TV G)) (H:List (TO G)):TV G->Option (TV G)
 | .po id o=>(match H[id]? with
  | some (.box cs)=>(match pH f (cs.drop o) with | some l=>some (.bR l) | none=>none)
  | _=>none)
 | v=>f v
def Cr (H:List (TO G)):Nat->TV G->Option (TV G)
 | 0,v=>if v.free then some v else none
 | d+1,v=>if v.free then some v else match v with
  | .own id=>(match H[id]? with
   | some (.aQ fl t l)=>some (.aQ t l)
   | some (.cQ fl sz es)=>if jK es then some (.o4 es) else none
   | _=>none)
  | .sa id lo len m _=>(match H[id]? with
   | some (.arr n t a)=>if t= .bool/\m=n then some (.aQ t ((a.1.drop lo).take len)) else none
   | _=>none)
  | .agg l=>(match pH (Cr H d) l with | some l=>some (.agg l) | none=>none)
  | .aY l=>(match pH (Cr H d) l with | some l=>some (.aY l) | none=>none)
  | .fn f l=>(match pH (Ze (Cr H d) H) l with | some l=>some (.fn f l) | none=>none)
  | _=>none
theorem oh {g:Ge G} {ln:Nat->Nat} {f:TV G->Option (TV G)} {p:AV->Option AV} (h:∀ x y,f x=some y->p (x.av g ln)=some (y.av g ln)):∀ {l m:List (TV G)},pH f l=some m->ey p (TV.aP g ln l)=some (TV.aP g ln m)
 | [],m,e=>by injection e with e;subst e;rfl
 | x::l,m,e=>by
  rw [pH] at e;split at e
  case h_2=>cases e
  rename_i y hy;split at e
  case h_2=>cases e
  rename_i ys hys;injection e with e;subst e
  simp only [TV.aP,ey,h _ _ hy,oh h hys]
theorem rK {p:AV->Option AV} (hp:∀ a,a.bD 0=true->p a=some a):∀ {es:List (List AV)},AV.bO 0 es=true->gB p es=some es
 | [],_=>rfl
 | e::r,h=>by
  simp only [AV.bO,za0] at h;have h1:∀ {l:List AV},AV.aR 0 l=true->ey p l=some l:=by
   intro l;induction l with
   | nil=>intro _;rfl
   | cons a l ih=>
    intro h;simp only [AV.aR,za0] at h;simp only [ey,hp a h.1,ih h.2]
  simp only [gB,h1 h.1,rK hp h.2]
theorem saB {H:List Obj} {id n sz lo len:Nat} (a:eB n Bool) (hH:H[id]?=some (.live .norm sz [(a.1.map fun b=>[AV.bool b]).flatten])) (hc:lo+len<=n) (d:Nat):
 (match fJ H id 1 0 lo 1 len with | some l=>(match gB (pk d H) l with | some l'=>some (AV.ro l') | none=>none) | none=>none)=some (.ro (((a.1.drop lo).take len).map fun b=>[AV.bool b])):=by
 have hn:=a.2;rw [vW (f:=AV.bool)] at hH;simp only [fJ,aC,hH,zaA,if_true,zaq,zaa,hn,zbv];rw [if_pos hc,<-zc,qe (C:=fun b=>[AV.bool b]) (fun _=>rfl) len _ (by rw [List.length_drop,hn];omega)];dsimp only;rw [tc (C:=fun b=>[AV.bool b]) (fun _=>rfl)]
theorem mz {g:Ge G} (hg:g.Ok) {s:DS G}:∀ (d:Nat) {v w:TV G},Cr s.H d v=some w->pk d (s.Hv g) (v.av g s.ln)=some (w.av g s.ln)
 | 0,v,w,h=>by
  unfold Cr at h;split at h
  ·rename_i hf;injection h with h;subst h;exact je (lC hg _ _ hf)
  ·cases h
 | d+1,v,w,h=>by
  unfold Cr at h;split at h
  ·rename_i hf;injection h with h;subst h;exact je (lC hg _ _ hf)
  rename_i hf;have nb:∀ {a:AV} {r:Option AV},(∀ (b:AV),a.bD 0=true->r=some b->b=a)->r.isSome=true->(match a with
   | .own id ext off len=>
    (match aC (s.Hv g) id with
     | some (_,es)=>if ext=es.length then
      (match gB (pk d (s.Hv g)) ((es.drop off).take len) with | some l=>some (sF (cy (s.Hv g) id) es l) | none=>none)
      else none
     | none=>none)
   | .arr id ext e o sz len=>
    (match fJ (s.Hv g) id ext e o sz len with
     | some l=>(match gB (pk d (s.Hv g)) l with | some l'=>some (AV.ro l') | none=>none)
     | none=>none)
   | .agg cs=>(match ey (pk d (s.Hv g)) cs with | some l=>some (.agg l) | none=>none)
   | .aY cs=>(match ey (pk d (s.Hv g)) cs with | some l=>some (.aY l) | none=>none)
   | .fn f cap=>(match ey (Qh (pk d (s.Hv g)) (s.Hv g)) cap with | some l=>some (.fn f l) | none=>none)
   | _=>none)=r->pk (d+1) (s.Hv g) a=r:=by
   intro a r hid hs he;unfold pk;split
   ·rename_i hb
    cases r with
    | none=>cases hs
    | some b=>rw [hid b hb rfl]
   ·exact he
  have mid:∀ {l m:List AV} {p:AV->Option AV},(∀ a,a.bD 0=true->p a=some a)->AV.aR 0 l=true->ey p l=some m->m=l:=by
   intro l;induction l with
   | nil=>intro m p _ _ h;injection h with h;exact h.symm
   | cons a l ih=>
    intro m p hp hb h;simp only [AV.aR,za0] at hb;rw [ey,hp a hb.1] at h;split at h
    case h_2=>cases h
    rename_i y ys h1 h2;injection h1 with h1;subst h1
    injection h with h;subst h
    rw [ih hp hb.2 h2]
  split at h
  ·rename_i id;split at h
   ·rename_i fl t l hid;injection h with h;subst h
    refine nb (r:=some (.ro (l.map (enc g t)))) (fun b hb=>?_) rfl ?_
    ·simp [TV.av,AV.bD] at hb
    ·simp only [TV.av,aC,bl hid,TO.av,nM hid,zaa,if_true,zaW];rw [zah (by simp),tc (cT hg t).bD l];rfl
   ·rename_i fl sz es hid;split at h
    case isFalse=>cases h
    rename_i hfr;injection h with h;subst h
    have e:s.ln id=es.length:=by unfold DS.ln ju;rw [hid];rfl
    refine nb (r:=some (.ro (TV.cV g s.ln es))) (fun b hb=>?_) rfl ?_
    ·simp [TV.av,AV.bD] at hb
    ·simp only [TV.av,aC,bl hid,TO.av,e];have hl:(TV.cV g s.ln es).length=es.length:=by rw [bu,zaa]
     rw [if_pos hl.symm,zaW,zah (by rw [hl];exact za7 _),rK (fun a ha=>je ha) (fR hg s.ln es hfr)];rfl
   ·cases h
  ·rename_i id lo len m hm;split at h
   case h_2=>cases h
   rename_i n t a hid;split at h
   case isFalse=>cases h
   rename_i hc;obtain ⟨rfl,hc⟩:=hc;subst hc;injection h with h;subst h
   rw [show (TV.sa id lo len _ hm:TV G).av g s.ln=if len=0 then .ro [] else .arr id 1 0 lo 1 len from rfl];by_cases h0:len=0
   ·subst h0;rw [if_pos rfl];exact je (v:=AV.ro []) rfl
   ·rw [if_neg h0];refine nb (r:=some _) (fun b hb=>?_) rfl ?_
    ·simp [AV.bD] at hb
    ·exact saB (show eB _ Bool from a) (bl hid) hm d
  ·rename_i l;split at h
   case h_2=>cases h
   rename_i m hm;injection h with h;subst h
   have h1:=oh (g:=g) (ln:=s.ln) (fun x y e=>mz hg d e) hm;refine nb (r:=some (.agg (TV.aP g s.ln m))) (fun b hb e=>?_) rfl (by simp only [TV.av,h1]);injection e with e;subst e
   show AV.agg _=AV.agg _;rw [mid (fun a ha=>je ha) hb h1]
  ·rename_i l;split at h
   case h_2=>cases h
   rename_i m hm;injection h with h;subst h
   have h1:=oh (g:=g) (ln:=s.ln) (fun x y e=>mz hg d e) hm;refine nb (r:=some (.aY (TV.aP g s.ln m))) (fun b hb e=>?_) rfl (by simp only [TV.av,h1]);injection e with e;subst e
   show AV.aY _=AV.aY _;rw [mid (fun a ha=>je ha) hb h1]
  ·rename_i f l;split at h
   case h_2=>cases h
   rename_i m hm;injection h with h;subst h
   have h1:=oh (g:=g) (ln:=s.ln) (p:=Qh (pk d (s.Hv g)) (s.Hv g)) (fun x y e=>by
    unfold Ze at e;split at e
    ·rename_i id o;split at e
     case h_2=>cases e
     rename_i cs hid;split at e
     case h_2=>cases e
     rename_i l' hl';injection e with e;subst e
     have h2:=oh (g:=g) (ln:=s.ln) (fun x y e=>mz hg d e) hl';simp only [TV.av,Qh,aC,bl hid,TO.av,zaA,if_true,zaq];rw [show (TV.aP g s.ln cs).drop o=TV.aP g s.ln (cs.drop o) by rw [bV,bV,zc],h2]
    ·rename_i hne;have h3:=mz hg d e;unfold Qh;split
     ·rename_i id ext e' o' ea;have:pk d (s.Hv g) (.aJ id ext e' o')=none:=by
       cases d with
       | zero=>unfold pk;rw [if_neg (by simp [AV.eN,AV.bD])]
       | succ d=>unfold pk;rw [if_neg (by simp [AV.eN,AV.bD])]
      rw [ea,this] at h3;cases h3
     ·exact h3) hm
   refine nb (r:=some (.fn f (TV.aP g s.ln m))) (fun b hb e=>?_) rfl (by simp only [TV.av,h1]);injection e with e;subst e
   show AV.fn _ _=AV.fn _ _;congr 1;refine mid (p:=Qh (pk d (s.Hv g)) (s.Hv g)) (fun a ha=>?_) hb h1;unfold Qh;split
   ·simp [AV.bD] at ha
   ·exact je ha
  ·cases h
end
end oe
