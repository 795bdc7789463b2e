/- Parts of my machine and its laws, joined: DnE DnF. No condition. -/
import Derived.Test.YtafgdbaekppjcaaGreatDoorDnD
set_option linter.unusedSectionVars false
set_option linter.unusedVariables false
set_option linter.unusedSimpArgs false
section
namespace oZ
open Go hiding Obj mark
open Go.Pl Go.Am Go.Am.As
section
variable {G:Nat->Type} {R:Type}
mutual
def TV.free:TV G->Bool
 | .agg l=>TV.mM l
 | .bl l=>TV.mM l
 | .fn _ l=>TV.mM l
 | .po .. | .own _ | .pe .. | .pa .. | .sa ..=>false
 | .raw v=>v.bp 0
 | _=>true
def TV.mM:List (TV G)->Bool
 | []=>true
 | x::xs=>x.free&&TV.mM xs
end
mutual
theorem nM {g:Ge G} (hg:g.Ok) (ln:Nat->Nat):∀ v:TV G,v.free=true->(v.av g ln).bp 0=true
 | .agg l,h=>eP hg ln l h
 | .bl l,h=>eP hg ln l h
 | .fn _ l,h=>eP hg ln l h
 | .int _ _,_ | .bool _,_ | .str _,_ | .aL _ _,_ | .qx _,_ | .bZ _,_=>rfl
 | .gC t o,_=>by cases o<;>rfl
 | .eg t o,_=>by cases o<;>rfl
 | .arr n t a,_=>(c6 hg (.arr n t)).bp a
 | .raw v,h=>h
 | .po ..,h | .own _,h | .pe ..,h | .pa ..,h | .sa ..,h=>by cases h
theorem eP {g:Ge G} (hg:g.Ok) (ln:Nat->Nat):∀ l:List (TV G),TV.mM l=true->AV.aT 0 (TV.aS g ln l)=true
 | [],_=>rfl
 | x::l,h=>by
  simp only [TV.mM,za0] at h;simp only [TV.aS,AV.aT,nM hg ln x h.1,eP hg ln l h.2,zbO]
end
def jJ:List (List (TV G))->Bool
 | []=>true
 | x::xs=>TV.mM x&&jJ xs
theorem fZ {g:Ge G} (hg:g.Ok) (ln:Nat->Nat):∀ l:List (List (TV G)),jJ l=true->AV.bN 0 (TV.dc g ln l)=true
 | [],_=>rfl
 | x::l,h=>by
  simp only [jJ,za0] at h;simp only [TV.dc,AV.bN,eP hg ln x h.1,fZ hg ln l h.2,zbO]
def pE (f:TV G->Option (TV G)):List (TV G)->Option (List (TV G))
 | []=>some []
 | x::xs=>(match f x with
  | some y=>(match pE f xs with | some ys=>some (y::ys) | none=>none)
  | none=>none)
def Xh (f:TV G->Option (TV G)) (H:List (TO G)):TV G->Option (TV G)
 | .po id o=>(match H[id]? with
  | some (.box cs)=>(match pE f (cs.drop o) with | some l=>some (.bZ l) | none=>none)
  | _=>none)
 | v=>f v
def BV (H:List (TO G)):Nat->TV G->Option (TV G)
 | 0,v=>if v.free then some v else none
 | d+1,v=>if v.free then some v else match v with
  | .own id=>(match H[id]? with
   | some (.aL fl t l)=>some (.aL t l)
   | some (.cX fl sz es)=>if jJ es then some (.qx es) else none
   | _=>none)
  | .sa id lo len m _=>(match H[id]? with
   | some (.arr n t a)=>if t= .bool/\m=n then some (.aL t ((a.1.drop lo).take len)) else none
   | _=>none)
  | .agg l=>(match pE (BV H d) l with | some l=>some (.agg l) | none=>none)
  | .bl l=>(match pE (BV H d) l with | some l=>some (.bl l) | none=>none)
  | .fn f l=>(match pE (Xh (BV H d) H) l with | some l=>some (.fn f l) | none=>none)
  | _=>none
theorem og {g:Ge G} {ln:Nat->Nat} {f:TV G->Option (TV G)} {p:AV->Option AV} (h:∀ x y,f x=some y->p (x.av g ln)=some (y.av g ln)):∀ {l m:List (TV G)},pE f l=some m->fC p (TV.aS g ln l)=some (TV.aS g ln m)
 | [],m,e=>by injection e with e;subst e;rfl
 | x::l,m,e=>by
  rw [pE] at e;split at e
  case h_2=>cases e
  rename_i y hy;split at e
  case h_2=>cases e
  rename_i ys hys;injection e with e;subst e
  simp only [TV.aS,fC,h _ _ hy,og h hys]
theorem rB {p:AV->Option AV} (hp:∀ a,a.bp 0=true->p a=some a):∀ {es:List (List AV)},AV.bN 0 es=true->gE p es=some es
 | [],_=>rfl
 | e::r,h=>by
  simp only [AV.bN,za0] at h;have h1:∀ {l:List AV},AV.aT 0 l=true->fC p l=some l:=by
   intro l;induction l with
   | nil=>intro _;rfl
   | cons a l ih=>
    intro h;simp only [AV.aT,za0] at h;simp only [fC,hp a h.1,ih h.2]
  simp only [gE,h1 h.1,rB hp h.2]
theorem saB {H:List Obj} {id n sz lo len:Nat} (a:fh n Bool) (hH:H[id]?=some (.live .norm sz [(a.1.map fun b=>[AV.bool b]).flatten])) (hc:lo+len<=n) (d:Nat):
 (match iM H id 1 0 lo 1 len with | some l=>(match gE (pk d H) l with | some l'=>some (AV.ro l') | none=>none) | none=>none)=some (.ro (((a.1.drop lo).take len).map fun b=>[AV.bool b])):=by
 have hn:=a.2;rw [zg (f:=AV.bool)] at hH;simp only [iM,aH,hH,zag,if_true,zas,zah,hn,zbH];rw [if_pos hc,<-List.map_drop,xP (C:=fun b=>[AV.bool b]) (fun _=>rfl) len _ (by rw [List.length_drop,hn];omega)];dsimp only;rw [sX (C:=fun b=>[AV.bool b]) (fun _=>rfl)]
theorem mm {g:Ge G} (hg:g.Ok) {s:DS G}:∀ (d:Nat) {v w:TV G},BV s.H d v=some w->pk d (s.Hv g) (v.av g s.ln)=some (w.av g s.ln)
 | 0,v,w,h=>by
  unfold BV at h;split at h
  ·rename_i hf;injection h with h;subst h;exact jd (nM hg _ _ hf)
  ·cases h
 | d+1,v,w,h=>by
  unfold BV at h;split at h
  ·rename_i hf;injection h with h;subst h;exact jd (nM hg _ _ hf)
  rename_i hf;have nb:∀ {a:AV} {r:Option AV},(∀ (b:AV),a.bp 0=true->r=some b->b=a)->r.isSome=true->(match a with
   | .own id ext off len=>
    (match aH (s.Hv g) id with
     | some (_,es)=>if ext=es.length then
      (match gE (pk d (s.Hv g)) ((es.drop off).take len) with | some l=>some (su (cD (s.Hv g) id) es l) | none=>none)
      else none
     | none=>none)
   | .arr id ext e o sz len=>
    (match iM (s.Hv g) id ext e o sz len with
     | some l=>(match gE (pk d (s.Hv g)) l with | some l'=>some (AV.ro l') | none=>none)
     | none=>none)
   | .agg cs=>(match fC (pk d (s.Hv g)) cs with | some l=>some (.agg l) | none=>none)
   | .bl cs=>(match fC (pk d (s.Hv g)) cs with | some l=>some (.bl l) | none=>none)
   | .fn f cap=>(match fC (NY (pk d (s.Hv g)) (s.Hv g)) cap with | some l=>some (.fn f l) | none=>none)
   | _=>none)=r->pk (d+1) (s.Hv g) a=r:=by
   intro a r hid hs he;unfold pk;split
   ·rename_i hb
    cases r with
    | none=>cases hs
    | some b=>rw [hid b hb rfl]
   ·exact he
  have mid:∀ {l m:List AV} {p:AV->Option AV},(∀ a,a.bp 0=true->p a=some a)->AV.aT 0 l=true->fC p l=some m->m=l:=by
   intro l;induction l with
   | nil=>intro m p _ _ h;injection h with h;exact h.symm
   | cons a l ih=>
    intro m p hp hb h;simp only [AV.aT,za0] at hb;rw [fC,hp a hb.1] at h;split at h
    case h_2=>cases h
    rename_i y ys h1 h2;injection h1 with h1;subst h1
    injection h with h;subst h
    rw [ih hp hb.2 h2]
  split at h
  ·rename_i id;split at h
   ·rename_i fl t l hid;injection h with h;subst h
    refine nb (r:=some (.ro (l.map (enc g t)))) (fun b hb=>?_) rfl ?_
    ·simp [TV.av,AV.bp] at hb
    ·simp only [TV.av,aH,bw hid,TO.av,lB hid,zah,if_true,zaQ];rw [zad (by simp),sX (c6 hg t).bp l];rfl
   ·rename_i fl sz es hid;split at h
    case isFalse=>cases h
    rename_i hfr;injection h with h;subst h
    have e:s.ln id=es.length:=by unfold DS.ln kg;rw [hid];rfl
    refine nb (r:=some (.ro (TV.dc g s.ln es))) (fun b hb=>?_) rfl ?_
    ·simp [TV.av,AV.bp] at hb
    ·simp only [TV.av,aH,bw hid,TO.av,e];have hl:(TV.dc g s.ln es).length=es.length:=by rw [br,zah]
     rw [if_pos hl.symm,zaQ,zad (by rw [hl];exact za6 _),rB (fun a ha=>jd ha) (fZ hg s.ln es hfr)];rfl
   ·cases h
  ·rename_i id lo len m hm;split at h
   case h_2=>cases h
   rename_i n t a hid;split at h
   case isFalse=>cases h
   rename_i hc;obtain ⟨rfl,hc⟩:=hc;subst hc;injection h with h;subst h
   rw [show (TV.sa id lo len _ hm:TV G).av g s.ln=if len=0 then .ro [] else .arr id 1 0 lo 1 len from rfl];by_cases h0:len=0
   ·subst h0;rw [if_pos rfl];exact jd (v:=AV.ro []) rfl
   ·rw [if_neg h0];refine nb (r:=some _) (fun b hb=>?_) rfl ?_
    ·simp [AV.bp] at hb
    ·exact saB (show fh _ Bool from a) (bw hid) hm d
  ·rename_i l;split at h
   case h_2=>cases h
   rename_i m hm;injection h with h;subst h
   have h1:=og (g:=g) (ln:=s.ln) (fun x y e=>mm hg d e) hm;refine nb (r:=some (.agg (TV.aS g s.ln m))) (fun b hb e=>?_) rfl (by simp only [TV.av,h1]);injection e with e;subst e
   show AV.agg _=AV.agg _;rw [mid (fun a ha=>jd ha) hb h1]
  ·rename_i l;split at h
   case h_2=>cases h
   rename_i m hm;injection h with h;subst h
   have h1:=og (g:=g) (ln:=s.ln) (fun x y e=>mm hg d e) hm;refine nb (r:=some (.bl (TV.aS g s.ln m))) (fun b hb e=>?_) rfl (by simp only [TV.av,h1]);injection e with e;subst e
   show AV.bl _=AV.bl _;rw [mid (fun a ha=>jd ha) hb h1]
  ·rename_i f l;split at h
   case h_2=>cases h
   rename_i m hm;injection h with h;subst h
   have h1:=og (g:=g) (ln:=s.ln) (p:=NY (pk d (s.Hv g)) (s.Hv g)) (fun x y e=>by
    unfold Xh at e;split at e
    ·rename_i id o;split at e
     case h_2=>cases e
     rename_i cs hid;split at e
     case h_2=>cases e
     rename_i l' hl';injection e with e;subst e
     have h2:=og (g:=g) (ln:=s.ln) (fun x y e=>mm hg d e) hl';simp only [TV.av,NY,aH,bw hid,TO.av,zag,if_true,zas];rw [show (TV.aS g s.ln cs).drop o=TV.aS g s.ln (cs.drop o) by rw [bU,bU,List.map_drop],h2]
    ·rename_i hne;have h3:=mm hg d e;unfold NY;split
     ·rename_i id ext e' o' ea;have:pk d (s.Hv g) (.aA id ext e' o')=none:=by
       cases d with
       | zero=>unfold pk;rw [if_neg (by simp [AV.fE,AV.bp])]
       | succ d=>unfold pk;rw [if_neg (by simp [AV.fE,AV.bp])]
      rw [ea,this] at h3;cases h3
     ·exact h3) hm
   refine nb (r:=some (.fn f (TV.aS g s.ln m))) (fun b hb e=>?_) rfl (by simp only [TV.av,h1]);injection e with e;subst e
   show AV.fn _ _=AV.fn _ _;congr 1;refine mid (p:=NY (pk d (s.Hv g)) (s.Hv g)) (fun a ha=>?_) hb h1;unfold NY;split
   ·simp [AV.bp] at ha
   ·exact jd ha
  ·cases h
end
end oZ
end
section
namespace oZ
open Go hiding Obj mark
open Go.Pl Go.Am Go.Am.As
inductive Sh where
 | lf (t:Ty)
 | own (id:Nat)
 | po (id o:Nat)
 | c (v:AV)
 | agg (l:List Sh)
 | bl (l:List Sh)
 | bZ (l:List Sh)
 | fn (f:Nat) (l:List Sh)
 | pe (id o:Nat)
 | cb (b:Bool)
 deriving Inhabited
inductive Oh where
 | dead
 | iA
 | aL (fl:Fl) (t:Ty)
 | box (l:List Sh)
 | arr (n:Nat) (t:Ty)
 | lp (s:Ls) (fi:Nat)
 | rws (fl:Fl) (sz:Nat) (es:List (List AV))
 | mT
 | yE
 deriving Inhabited
structure Tm where
 ts:List Ty
 sl:List (Nat×Sh)
 H:List Oh
 deriving Inhabited
section
variable {G:Nat->Type} {R:Type}
def DL (G:Nat->Type):List Ty->Type
 | []=>Unit
 | [t]=>t.D G
 | t::u::r=>t.D G×DL G (u::r)
def nq (g:Ge G):(ts:List Ty)->List (TV G)->Option (DL G ts)
 | [],l=>(match l with | []=>some () | _=>none)
 | [t],l=>(match l with | [v]=>yC g t v | _=>none)
 | t::u::r,l=>(match l with
  | v::l=>(match yC g t v with
   | some x=>(match nq g (u::r) l with | some y=>some (x,y) | none=>none)
   | none=>none)
  | []=>none)
def aM (g:Ge G):(ts:List Ty)->DL G ts->List (TV G)
 | [],_=>[]
 | [t],x=>[view g t x]
 | t::u::r,x=>view g t x.1::aM g (u::r) x.2
def vN (g:Ge G):(ts:List Ty)->DL G ts->List AV
 | [],_=>[]
 | [t],x=>[va g t x]
 | t::u::r,x=>va g t x.1::vN g (u::r) x.2
theorem ig {g:Ge G} (hg:g.Ok) (ln:Nat->Nat):∀ (ts:List Ty) (x:DL G ts),TV.aS g ln (aM g ts x)=vN g ts x
 | [],_=>rfl
 | [t],x=>congrArg (fun a=>[a]) (vg hg ln t x)
 | t::u::r,x=>by
  show _::_=_::_;exact congr (congrArg List.cons (vg hg ln t x.1)) (ig hg ln (u::r) x.2)
theorem kB {g:Ge G} (hg:g.Ok) (ln:Nat->Nat):∀ (ts:List Ty) (l:List (TV G)) (x:DL G ts),nq g ts l=some x->TV.aS g ln l=vN g ts x
 | [],[],x,h=>rfl
 | [],_::_,x,h=>nomatch h
 | [t],[v],x,h=>congrArg (fun a=>[a]) (mq hg ln t v x h)
 | [t],[],x,h=>nomatch h
 | [t],_::_::_,x,h=>nomatch h
 | t::u::r,[],x,h=>nomatch h
 | t::u::r,v::l,x,h=>by
  have h':(match yC g t v with
   | some x=>(match nq g (u::r) l with | some y=>some (x,y) | none=>none)
   | none=>none)=some x:=h
  split at h'
  case h_2=>cases h'
  rename_i a ha;split at h'
  case h_2=>cases h'
  rename_i b hb;injection h' with h';subst h'
  show _::_=_::_;exact congr (congrArg List.cons (mq hg ln t v a ha)) (kB hg ln (u::r) l b hb)
def Th (i:Nat):TV G->Option (List (TV G))
 | .own j=>if Nat.beq i j then some [] else none
 | _=>none
def poC (i o:Nat):TV G->Option (List (TV G))
 | .po j p=>if Nat.beq i j&&Nat.beq o p then some [] else none
 | _=>none
def Kh (a b:AV):Bool:=match a with
 | .fI i=>(match b with | .fI j=>Nat.beq i j | _=>false)
 | .qy i=>(match b with | .qy j=>Nat.beq i j | _=>false)
 | .any=>(match b with | .any=>true | _=>false)
 | a=>AV.same a b
theorem Mv {a b:AV} (h:Kh a b=true):a=b:=by
 unfold Kh at h;split at h
 ·split at h
  ·rw [za3 h]
  ·cases h
 ·split at h
  ·rw [za3 h]
  ·cases h
 ·split at h
  ·rfl
  ·cases h
 ·exact AV.bx h
def cC (a:AV):TV G->Option (List (TV G))
 | .raw b=>if Kh a b then some [] else none
 | _=>none
def cbC (b:Bool):TV G->Option (List (TV G))
 | .bool c=>if b==c then some [] else none
 | _=>none
theorem Us {b:Bool} {v:TV G} {l:List (TV G)} (h:cbC b v=some l):v= .bool b/\l=[]:=by
 cases v with
 | bool c=>
  unfold cbC at h;dsimp only at h;split at h
  ·rename_i hc;injection h with h;exact ⟨by rw [eq_of_beq hc],h.symm⟩
  ·cases h
 | _=>cases h
def XB (f:List (TV G)->Option (List (TV G))):TV G->Option (List (TV G))
 | .agg vs=>f vs
 | _=>none
def XC (f:List (TV G)->Option (List (TV G))):TV G->Option (List (TV G))
 | .bl vs=>f vs
 | _=>none
def XD (f:List (TV G)->Option (List (TV G))):TV G->Option (List (TV G))
 | .bZ vs=>f vs
 | _=>none
def fnC (n:Nat) (f:List (TV G)->Option (List (TV G))):TV G->Option (List (TV G))
 | .fn m vs=>if Nat.beq n m then f vs else none
 | _=>none
theorem Pw {i:Nat} {v:TV G} {l:List (TV G)} (h:Th i v=some l):v= .own i/\l=[]:=by
 cases v with
 | own j=>
  unfold Th at h;dsimp only at h;split at h
  ·rename_i hc;injection h with h;exact ⟨by rw [za3 hc],h.symm⟩
  ·cases h
 | _=>cases h
theorem Ut {i o:Nat} {v:TV G} {l:List (TV G)} (h:poC i o v=some l):v= .po i o/\l=[]:=by
 cases v with
 | po j p=>
  unfold poC at h;dsimp only at h;split at h
  ·rename_i hc;rw [za0] at hc;injection h with h;exact ⟨by rw [za3 hc.1,za3 hc.2],h.symm⟩
  ·cases h
 | _=>cases h
theorem RP {a:AV} {v:TV G} {l:List (TV G)} (h:cC a v=some l):v= .raw a/\l=[]:=by
 cases v with
 | raw b=>
  unfold cC at h;dsimp only at h;split at h
  ·rename_i hc;injection h with h;exact ⟨by rw [Mv hc],h.symm⟩
  ·cases h
 | _=>cases h
theorem Px {f:List (TV G)->Option (List (TV G))} {v:TV G} {l:List (TV G)} (h:XB f v=some l):∃ vs,v= .agg vs/\f vs=some l:=by
 cases v with
 | agg vs=>exact ⟨vs,rfl,h⟩
 | _=>cases h
theorem Py {f:List (TV G)->Option (List (TV G))} {v:TV G} {l:List (TV G)} (h:XC f v=some l):∃ vs,v= .bl vs/\f vs=some l:=by
 cases v with
 | bl vs=>exact ⟨vs,rfl,h⟩
 | _=>cases h
theorem Pz {f:List (TV G)->Option (List (TV G))} {v:TV G} {l:List (TV G)} (h:XD f v=some l):∃ vs,v= .bZ vs/\f vs=some l:=by
 cases v with
 | bZ vs=>exact ⟨vs,rfl,h⟩
 | _=>cases h
theorem Uu {n:Nat} {f:List (TV G)->Option (List (TV G))} {v:TV G} {l:List (TV G)} (h:fnC n f v=some l):∃ vs,v= .fn n vs/\f vs=some l:=by
 cases v with
 | fn m vs=>
  unfold fnC at h;dsimp only at h;split at h
  ·rename_i hc;exact ⟨vs,by rw [za3 hc],h⟩
  ·cases h
 | _=>cases h
def peC (i o:Nat):TV G->Option (List (TV G))
 | .pe j n p=>if Nat.beq i j&&Nat.beq o p then some [.int .i64 n] else none
 | _=>none
def avI:TV G->Option Int
 | .int _ n=>some n
 | .raw v=>(match v with | .int _ n=>some n | _=>none)
 | _=>none
def peR (i o:Nat) (v:TV G):TV G:=match avI v with
 | some n=> .pe i n o
 | none=> .raw .any
theorem Uv {i o:Nat} {v:TV G} {l:List (TV G)} (h:peC i o v=some l):∃ n,v= .pe i n o/\l=[.int .i64 n]:=by
 cases v with
 | pe j n p=>
  unfold peC at h;dsimp only at h;split at h
  ·rename_i hc;rw [za0] at hc;injection h with h;exact ⟨n,by rw [za3 hc.1,za3 hc.2],h.symm⟩
  ·cases h
 | _=>cases h
theorem Uw {g:Ge G} {ln:Nat->Nat} {v:TV G} {n:Int} (h:v.av g ln= .int .i64 n):avI v=some n:=by
 cases v with
 | int k m=>injection h with _ h;rw [h];rfl
 | raw a=>
  have h:a= .int .i64 n:=h;subst h;rfl
 | gC t o=>cases o<;>cases h
 | eg t o=>cases o<;>cases h
 | sa i lo len n hh=>
  have h:(if len=0 then AV.ro [] else .arr i 1 0 lo 1 len)=_:=h;split at h<;>cases h
 | _=>cases h
def RQ:Sh->Option Nat
 | .lf (.st i)=>some i
 | _=>none
mutual
def Sh.coll (g:Ge G):Sh->TV G->Option (List (TV G))
 | .lf _,v=>some [v]
 | .own i,v=>Th i v
 | .po i o,v=>poC i o v
 | .c a,v=>cC a v
 | .agg l,v=>XB (Sh.qN g l) v
 | .bl l,v=>XC (Sh.qN g l) v
 | .bZ l,v=>XD (Sh.qN g l) v
 | .fn f l,v=>fnC f (Sh.qN g l) v
 | .pe i o,v=>peC i o v
 | .cb b,v=>cbC b v
def Sh.qN (g:Ge G):List Sh->List (TV G)->Option (List (TV G))
 | [],vs=>(match vs with | []=>some [] | _::_=>none)
 | s::ss,vs=>(match RQ s with
  | some i=>if Nat.ble (g.n i) vs.length then (match Sh.qN g ss (vs.drop (g.n i)) with | some r=>some (.agg (vs.take (g.n i))::r) | none=>none) else none
  | none=>(match vs with
   | v::vs=>(match Sh.coll g s v with
    | some a=>(match Sh.qN g ss vs with | some b=>some (a++b) | none=>none)
    | none=>none)
   | []=>none))
end
def yJ:List (TV G)->TV G×List (TV G)
 | v::r=>(v,r)
 | []=>(.raw .any,[])
mutual
def Sh.eN (g:Ge G):Sh->List (TV G)->TV G×List (TV G)
 | .lf _,l=>yJ l
 | .own i,l=>(.own i,l)
 | .po i o,l=>(.po i o,l)
 | .c a,l=>(.raw a,l)
 | .agg ss,l=>(.agg (Sh.oW g ss l).1,(Sh.oW g ss l).2)
 | .bl ss,l=>(.bl (Sh.oW g ss l).1,(Sh.oW g ss l).2)
 | .bZ ss,l=>(.bZ (Sh.oW g ss l).1,(Sh.oW g ss l).2)
 | .fn f ss,l=>(.fn f (Sh.oW g ss l).1,(Sh.oW g ss l).2)
 | .pe i o,l=>(peR i o (yJ l).1,(yJ l).2)
 | .cb b,l=>(.bool b,l)
def Sh.oW (g:Ge G):List Sh->List (TV G)->List (TV G)×List (TV G)
 | [],l=>([],l)
 | s::ss,l=>(match RQ s with
  | some _=>((yJ l).1.cells g++(Sh.oW g ss (yJ l).2).1,(Sh.oW g ss (yJ l).2).2)
  | none=>((Sh.eN g s l).1::(Sh.oW g ss (Sh.eN g s l).2).1,(Sh.oW g ss (Sh.eN g s l).2).2))
end
theorem kC (g:Ge G) (ln:Nat->Nat) (a b:List (TV G)):TV.aS g ln (a++b)=TV.aS g ln a++TV.aS g ln b:=by
 rw [bU,bU,bU,zal]
theorem er {g:Ge G} {ln cj:Nat->Nat} {l a b:List (TV G)} (h:TV.aS g ln l=TV.aS g cj (a++b)):∃ a' b',l=a'++b'/\TV.aS g ln a'=TV.aS g cj a/\TV.aS g ln b'=TV.aS g cj b:=by
 rw [kC,bU] at h;obtain ⟨p,q,e1,e2,e3⟩:=List.map_eq_append_iff.1 h;exact ⟨p,q,e1,by rw [bU];exact e2,by rw [bU];exact e3⟩
theorem qX {g:Ge G} {ln cj:Nat->Nat} {l:List (TV G)} {v:TV G} (h:TV.aS g ln l=TV.aS g cj [v]):∃ w,l=[w]/\w.av g ln=v.av g cj:=by
 match l with
 | []=>cases h
 | [w]=>injection h with h _;exact ⟨w,rfl,h⟩
 | _::_::_=>injection h with _ h;cases h
theorem gN {g:Ge G} {ln cj:Nat->Nat} {l:List (TV G)} (h:TV.aS g ln l=TV.aS g cj []):l=[]:=by
 cases l with
 | nil=>rfl
 | cons x l=>cases h
mutual
theorem qV {g:Ge G} {ln:Nat->Nat}:∀ (s:Sh) (v:TV G) (l:List (TV G)),Sh.coll g s v=some l->∀ l' r,TV.aS g ln l'=TV.aS g ln l->∃ v',Sh.eN g s (l'++r)=(v',r)/\v'.av g ln=v.av g ln
 | .lf t,v,l,h,l',r,e=>by
  injection h with h;subst h
  obtain ⟨w,e1,e2⟩:=qX e;subst e1;exact ⟨w,rfl,e2⟩
 | .own i,v,l,h,l',r,e=>by
  obtain ⟨rfl,rfl⟩:=Pw (l:=l) h;rw [gN e];exact ⟨_,rfl,rfl⟩
 | .po i o,v,l,h,l',r,e=>by
  obtain ⟨rfl,rfl⟩:=Ut (l:=l) h;rw [gN e];exact ⟨_,rfl,rfl⟩
 | .c a,v,l,h,l',r,e=>by
  obtain ⟨rfl,rfl⟩:=RP (l:=l) h;rw [gN e];exact ⟨_,rfl,rfl⟩
 | .agg ss,v,l,h,l',r,e=>by
  obtain ⟨vs,e0,h0⟩:=Px (l:=l) h;subst e0;obtain ⟨vs',h1,h2⟩:=jN ss _ l h0 l' r e;exact ⟨.agg vs',by rw [Sh.eN,h1],by rw [TV.av,TV.av,h2]⟩
 | .bl ss,v,l,h,l',r,e=>by
  obtain ⟨vs,e0,h0⟩:=Py (l:=l) h;subst e0;obtain ⟨vs',h1,h2⟩:=jN ss _ l h0 l' r e;exact ⟨.bl vs',by rw [Sh.eN,h1],by rw [TV.av,TV.av,h2]⟩
 | .bZ ss,v,l,h,l',r,e=>by
  obtain ⟨vs,e0,h0⟩:=Pz (l:=l) h;subst e0;obtain ⟨vs',h1,h2⟩:=jN ss _ l h0 l' r e;exact ⟨.bZ vs',by rw [Sh.eN,h1],by rw [TV.av,TV.av,h2]⟩
 | .fn f ss,v,l,h,l',r,e=>by
  obtain ⟨vs,e0,h0⟩:=Uu (l:=l) h;subst e0;obtain ⟨vs',h1,h2⟩:=jN ss _ l h0 l' r e;exact ⟨.fn f vs',by rw [Sh.eN,h1],by rw [TV.av,TV.av,h2]⟩
 | .pe i o,v,l,h,l',r,e=>by
  obtain ⟨n,e0,h0⟩:=Uv (l:=l) h;subst e0;subst h0;obtain ⟨w,e1,e2⟩:=qX e;subst e1;refine ⟨.pe i n o,?_,rfl⟩;show (peR i o w,r)=_;unfold peR;rw [Uw e2]
 | .cb b,v,l,h,l',r,e=>by
  obtain ⟨rfl,rfl⟩:=Us (l:=l) h;rw [gN e];exact ⟨_,rfl,rfl⟩
theorem jN {g:Ge G} {ln:Nat->Nat}:∀ (ss:List Sh) (vs l:List (TV G)),Sh.qN g ss vs=some l->∀ l' r,TV.aS g ln l'=TV.aS g ln l->∃ vs',Sh.oW g ss (l'++r)=(vs',r)/\TV.aS g ln vs'=TV.aS g ln vs
 | [],vs,l,h,l',r,e=>by
  cases vs with
  | cons v vs=>cases h
  | nil=>
   injection h with h;subst h
   rw [gN e];exact ⟨[],rfl,rfl⟩
 | s::ss,vs,l,h,l',r,e=>by
  rw [Sh.qN.eq_def] at h;rw [Sh.oW.eq_def];dsimp only at h ⊢;split at h
  ·rename_i i hm;split at h
   case isFalse=>cases h
   rename_i hc;split at h
   case h_2=>cases h
   rename_i b hb;injection h with h;subst h
   rw [<-zbq] at e;obtain ⟨p,q,e0,e1,e2⟩:=er e;subst e0;obtain ⟨w,e3,e4⟩:=qX e1;subst e3;obtain ⟨vs',h1,h2⟩:=jN ss _ b hb q r e2;refine ⟨w.cells g++vs',?_,?_⟩
   ·show (_,_)=_;rw [show (yJ (([w]++q)++r))=(w,q++r) from rfl];dsimp only;rw [h1]
   ·rw [kC,h2,<-dD,e4];show TV.aS g ln (vs.take (g.n i))++_=_;rw [<-kC,zbL]
  ·rename_i hm;split at h
   case h_2=>cases h
   rename_i v vs;split at h
   case h_2=>cases h
   rename_i a ha;split at h
   case h_2=>cases h
   rename_i b hb;injection h with h;subst h
   obtain ⟨p,q,e0,e1,e2⟩:=er e;subst e0;obtain ⟨v',h1,h2⟩:=qV s v a ha p (q++r) e1;obtain ⟨vs',h3,h4⟩:=jN ss vs b hb q r e2;refine ⟨v'::vs',?_,by rw [TV.aS,TV.aS,h2,h4]⟩;rw [zaz,h1];dsimp only;rw [h3]
end
def ofC:AV->TV G
 | .own i _ _ _=> .own i
 | a=> .raw a
def cCo (a:AV) (v:TV G):Bool:=match a with
 | .own i _ _ _=>(match v with | .own j=>Nat.beq i j | _=>false)
 | a=>(match cC a v with | some _=>true | none=>false)
theorem Ux {a:AV} {v:TV G} (h:cCo a v=true):v=ofC a:=by
 unfold cCo at h;split at h
 ·split at h
  ·rw [za3 h];rfl
  ·cases h
 ·rename_i hn
  cases hc:cC a v with
  | none=>rw [hc] at h;cases h
  | some l=>
   rw [(RP hc).1]
   cases a<;>first | rfl | exact (hn _ _ _ _ rfl).elim
def WL:List AV->List (TV G)->Bool
 | [],vs=>(match vs with | []=>true | _::_=>false)
 | a::as,vs=>(match vs with
  | v::vs=>cCo a v&&WL as vs
  | []=>false)
def OM:List (List AV)->List (List (TV G))->Bool
 | [],vs=>(match vs with | []=>true | _::_=>false)
 | a::as,vs=>(match vs with
  | v::vs=>WL a v&&OM as vs
  | []=>false)
theorem K8:∀ {as:List AV} {vs:List (TV G)},WL as vs=true->vs=as.map ofC
 | [],[],_=>rfl
 | [],_::_,h=>by cases h
 | _::_,[],h=>by cases h
 | a::as,v::vs,h=>by
  have h:(cCo a v&&WL as vs)=true:=h;rw [za0] at h;rw [za5,<-K8 h.2,<-Ux h.1]
theorem GS:∀ {as:List (List AV)} {vs:List (List (TV G))},OM as vs=true->vs=as.map (List.map ofC)
 | [],[],_=>rfl
 | [],_::_,h=>by cases h
 | _::_,[],h=>by cases h
 | a::as,v::vs,h=>by
  have h:(WL a v&&OM as vs)=true:=h;rw [za0] at h;rw [za5,<-GS h.2,<-K8 h.1]
def qL (g:Ge G):Oh->TO G->Option (List (TV G))
 | .dead,o=>(match o with | .dead=>some [] | _=>none)
 | .iA,o=>(match o with | .iA=>some [] | _=>none)
 | .aL fl t,o=>(match o with
  | .aL Rk u l=>if fl=Rk/\u=t then some [.aL u l] else none
  | .cX Rk sz es=>if fl=Rk/\sz=t.n g then (match o6 g t es with | some m=>some [.aL t m] | none=>none) else none
  | _=>none)
 | .box ss,o=>(match o with | .box vs=>Sh.qN g ss vs | _=>none)
 | .arr n t,o=>(match o with | .arr m u a=>if m=n/\u=t then some [.arr m u a] else none | _=>none)
 | .lp s fi,o=>(match o with | .lp s' fi'=>if s=s'/\fi=fi' then some [] else none | _=>none)
 | .rws fl sz es,o=>(match o with | .cX Rk sz' ws=>if fl=Rk/\sz=sz'/\OM es ws=true then some [] else none | _=>none)
 | .mT,o=>(match o with | .mT l=>some [.aL .str (l.map (·.1)),.aL (.int .i64) (l.map (·.2))] | _=>none)
 | .yE,o=>(match o with | .yE s p=>some [.str s,.int .i64 p] | _=>none)
def Ti (fl:Fl):TV G->TO G
 | .aL u m=> .aL fl u m
 | _=> .dead
def Tj:TV G->TO G
 | .arr m u a=> .arr m u a
 | _=> .dead
def EL (v w:TV G):TO G:=match v,w with
 | .aL u m,.aL u' m'=>if h:u= .str/\u'= .int .i64 then .mT (List.zip (h.1▸m:List (Ty.D G .str)) (h.2▸m':List (Ty.D G (.int .i64)))) else .dead
 | _,_=> .dead
def Tk (v w:TV G):TO G:=match v,w with
 | .str s,.int _ p=> .yE s p
 | _,_=> .dead
def mZ (g:Ge G):Oh->List (TV G)->TO G×List (TV G)
 | .dead,l=>(.dead,l)
 | .iA,l=>(.iA,l)
 | .aL fl t,l=>(Ti fl (yJ l).1,(yJ l).2)
 | .box ss,l=>(.box (Sh.oW g ss l).1,(Sh.oW g ss l).2)
 | .arr n t,l=>(Tj (yJ l).1,(yJ l).2)
 | .lp s fi,l=>(.lp s fi,l)
 | .rws fl sz es,l=>(.cX fl sz (es.map (List.map ofC)),l)
 | .mT,l=>(EL (yJ l).1 (yJ (yJ l).2).1,(yJ (yJ l).2).2)
 | .yE,l=>(Tk (yJ l).1 (yJ (yJ l).2).1,(yJ (yJ l).2).2)
def ug (g:Ge G):List Oh->List (TO G)->Option (List (TV G))
 | [],os=>(match os with | []=>some [] | _::_=>none)
 | h::hs,os=>(match os with
  | o::os=>(match qL g h o with
   | some a=>(match ug g hs os with | some b=>some (a++b) | none=>none)
   | none=>none)
  | []=>none)
def kV (g:Ge G):List Oh->List (TV G)->List (TO G)×List (TV G)
 | [],l=>([],l)
 | h::hs,l=>((mZ g h l).1::(kV g hs (mZ g h l).2).1,(kV g hs (mZ g h l).2).2)
def mO:Oh->TO G->Bool
 | .aL _ t,o=>(match o with | .aL _ u _=>decide (u=t) | _=>false)
 | .arr n t,o=>(match o with | .arr m u _=>decide (m=n/\u=t) | _=>false)
 | .mT,o=>(match o with | .mT _=>true | _=>false)
 | .yE,o=>(match o with | .yE ..=>true | _=>false)
 | _,_=>true
def qK:List Oh->List (TO G)->Bool
 | [],_=>true
 | h::hs,os=>(match os with
  | o::os=>mO h o&&qK hs os
  | []=>false)
theorem PA {fl:Fl} {v:TV G} {t:Ty} (h:mO (.aL fl t) (Ti fl v)=true):∃ m,v= .aL t m:=by
 cases v with
 | aL u m=>
  have h:decide (u=t)=true:=h;simp only [decide_eq_true_eq] at h;subst h;exact ⟨m,rfl⟩
 | _=>cases h
theorem PB {n:Nat} {v:TV G} {t:Ty} (h:mO (.arr n t) (Tj v)=true):∃ a,v= .arr n t a:=by
 cases v with
 | arr m u a=>
  have h:decide (m=n/\u=t)=true:=h;simp only [decide_eq_true_eq] at h;obtain ⟨rfl,rfl⟩:=h;exact ⟨a,rfl⟩
 | _=>cases h
theorem GU {g:Ge G} {ln cj:Nat->Nat} {l:List (TV G)} {u v:TV G} (h:TV.aS g ln l=TV.aS g cj [u,v]):∃ w x,l=[w,x]/\w.av g ln=u.av g cj/\x.av g ln=v.av g cj:=by
 match l with
 | []=>cases h
 | [w]=>injection h with _ h;cases h
 | [w,x]=>injection h with h1 h;injection h with h2 _;exact ⟨w,x,rfl,h1,h2⟩
 | _::_::_::_=>injection h with _ h;injection h with _ h;cases h
theorem PC {v w:TV G} (h:mO .mT (EL v w)=true):∃ (ks:List (List UInt8)) (vs:List Int),v= .aL .str ks/\w= .aL (.int .i64) vs/\EL v w= .mT (ks.zip vs):=by
 cases v with
 | aL u m=>cases w with
  | aL u' m'=>
   by_cases hh:u= .str/\u'= .int .i64
   ·obtain ⟨rfl,rfl⟩:=hh;exact ⟨m,m',rfl,rfl,rfl⟩
   ·exfalso;unfold EL at h;dsimp only at h;rw [dif_neg hh] at h
    cases h
  | _=>cases h
 | _=>cases h
theorem CV {α β:Type}:∀ l:List (α×β),(l.map (·.1)).zip (l.map (·.2))=l
 | []=>rfl
 | x::l=>by
  have h:(l.map (·.1)).zip (l.map (·.2))=l:=CV l;rw [za5,za5,List.zip_cons_cons,h]
theorem str_inj:∀ {a b:List (List UInt8)},a.map (fun s=>[AV.str s])=b.map (fun s=>[AV.str s])->a=b
 | [],[],_=>rfl
 | [],_::_,h=>by cases h
 | _::_,[],h=>by cases h
 | x::a,y::b,h=>by
  rw [za5,za5] at h;injection h with h1 h2
  injection h1 with h1 _
  injection h1 with h1
  rw [h1,str_inj h2]
theorem int_inj:∀ {a b:List Int},a.map (fun s=>[AV.int .i64 s])=b.map (fun s=>[AV.int .i64 s])->a=b
 | [],[],_=>rfl
 | [],_::_,h=>by cases h
 | _::_,[],h=>by cases h
 | x::a,y::b,h=>by
  rw [za5,za5] at h;injection h with h1 h2
  injection h1 with h1 _
  injection h1 with _ h1
  rw [h1,int_inj h2]
theorem PD {v w:TV G} (h:mO .yE (Tk v w)=true):∃ s k p,v= .str s/\w= .int k p:=by
 cases v with
 | str s=>cases w with
  | int k p=>exact ⟨s,k,p,rfl,rfl⟩
  | _=>cases h
 | _=>cases h
theorem CQ {g:Ge G} (hg:g.Ok) {ln:Nat->Nat} {F:List (T×C3)} {h:Oh} {o:TO G} {l:List (TV G)} (hc:qL g h o=some l) {l' r:List (TV G)} (e:TV.aS g ln l'=TV.aS g ln l) (hk:mO h (mZ g h (l'++r)).1=true):
 (mZ g h (l'++r)).2=r/\(mZ g h (l'++r)).1.av g ln F=o.av g ln F/\(mZ g h (l'++r)).1.len=o.len:=by
 cases h with
 | dead=>
  cases o with
  | dead=>injection hc with hc;subst hc;rw [gN e];exact ⟨rfl,rfl,rfl⟩
  | _=>cases hc
 | iA=>
  cases o with
  | iA=>injection hc with hc;subst hc;rw [gN e];exact ⟨rfl,rfl,rfl⟩
  | _=>cases hc
 | lp s fi=>
  cases o with
  | lp s' fi'=>
   unfold qL at hc;dsimp only at hc;split at hc
   case isFalse=>cases hc
   rename_i h1;obtain ⟨rfl,rfl⟩:=h1;injection hc with hc;subst hc;rw [gN e];exact ⟨rfl,rfl,rfl⟩
  | _=>cases hc
 | mT=>
  cases o with
  | mT es=>
   injection hc with hc;subst hc
   obtain ⟨w,x,e1,e2,e3⟩:=GU e;subst e1;obtain ⟨ks,vs,rfl,rfl,e4⟩:=PC (show mO .mT (EL w x)=true from hk);injection e2 with e2
   injection e3 with e3
   have h1:ks=es.map (·.1):=str_inj e2;have h2:vs=es.map (·.2):=int_inj e3;refine ⟨rfl,?_,?_⟩
   ·rw [show (mZ g Oh.mT ([TV.aL Ty.str ks,TV.aL (Ty.int IntKind.i64) vs]++r)).1=EL (.aL .str ks) (.aL (.int .i64) vs) from rfl,e4,h1,h2,CV]
   ·rw [show (mZ g Oh.mT ([TV.aL Ty.str ks,TV.aL (Ty.int IntKind.i64) vs]++r)).1=EL (.aL .str ks) (.aL (.int .i64) vs) from rfl,e4];rfl
  | _=>cases hc
 | yE=>
  cases o with
  | yE s p=>
   injection hc with hc;subst hc
   obtain ⟨w,x,e1,e2,e3⟩:=GU e;subst e1;obtain ⟨s',k,p',rfl,rfl⟩:=PD (show mO .yE (Tk w x)=true from hk);injection e2 with e2
   injection e3 with _ e3
   subst e2;subst e3;exact ⟨rfl,rfl,rfl⟩
  | _=>cases hc
 | rws fl sz es=>
  cases o with
  | cX Rk sz' ws=>
   unfold qL at hc;dsimp only at hc;split at hc
   case isFalse=>cases hc
   rename_i h1;obtain ⟨rfl,rfl,h3⟩:=h1;injection hc with hc;subst hc;rw [gN e,GS h3];exact ⟨rfl,rfl,rfl⟩
  | _=>cases hc
 | box ss=>
  cases o with
  | box vs=>
   obtain ⟨vs',h1,h2⟩:=jN (ln:=ln) ss vs l hc l' r e;have hl:vs'.length=vs.length:=by have:=congrArg List.length h2;rwa [dH,dH] at this
   unfold mZ;dsimp only;rw [h1];refine ⟨rfl,?_,rfl⟩;show Obj.live _ _ _=Obj.live _ _ _;rw [h2,hl]
  | _=>cases hc
 | arr n t=>
  cases o with
  | arr m u a=>
   unfold qL at hc;dsimp only at hc;split at hc
   case isFalse=>cases hc
   rename_i h1;obtain ⟨rfl,rfl⟩:=h1;injection hc with hc;subst hc
   obtain ⟨w,e1,e2⟩:=qX e;subst e1;have hk:mO (.arr m u) (Tj w)=true:=hk;obtain ⟨b,rfl⟩:=PB hk;refine ⟨rfl,?_,rfl⟩;injection e2 with e2
   show Obj.live _ _ [_]=Obj.live _ _ [_];rw [e2]
  | _=>cases hc
 | aL fl t=>
  have fin:∀ {m:List (t.D G)} {o:TO G},l=[.aL t m]->o.av g ln F= .live fl (t.n g) (m.map (enc g t))->o.len=m.length->(mZ g (.aL fl t) (l'++r)).2=r/\(mZ g (.aL fl t) (l'++r)).1.av g ln F=o.av g ln F/\(mZ g (.aL fl t) (l'++r)).1.len=o.len:=by
   intro m o e0 h1 h2;subst e0;obtain ⟨w,e1,e2⟩:=qX e;subst e1;have hk:mO (.aL fl t) (Ti fl w)=true:=hk;obtain ⟨b,rfl⟩:=PA hk;injection e2 with e2
   refine ⟨rfl,?_,?_⟩
   ·rw [h1];show Obj.live _ _ _=Obj.live _ _ _;rw [e2]
   ·rw [h2];show b.length=m.length;have:=congrArg List.length e2;simpa using this
  cases o with
  | aL Rk u m=>
   unfold qL at hc;dsimp only at hc;split at hc
   case isFalse=>cases hc
   rename_i h1;obtain ⟨rfl,rfl⟩:=h1;injection hc with hc
   exact fin hc.symm rfl rfl
  | cX Rk sz es=>
   unfold qL at hc;dsimp only at hc;split at hc
   case isFalse=>cases hc
   rename_i h1;obtain ⟨rfl,rfl⟩:=h1;split at hc
   case h_2=>cases hc
   rename_i m hm;injection hc with hc
   obtain ⟨h2,h3⟩:=iN hg ln hm;exact fin hc.symm (by show Obj.live _ _ _=_;rw [h2]) h3
  | _=>cases hc
theorem nQ {g:Ge G} (hg:g.Ok) {ln:Nat->Nat} {F:List (T×C3)}:∀ {hs:List Oh} {os:List (TO G)} {l:List (TV G)},ug g hs os=some l->∀ {l' r:List (TV G)},TV.aS g ln l'=TV.aS g ln l->qK hs (kV g hs (l'++r)).1=true->
 (kV g hs (l'++r)).1.map (TO.av g ln F)=os.map (TO.av g ln F)/\(kV g hs (l'++r)).1.map TO.len=os.map TO.len
 | [],[],l,h,l',r,e,hk=>⟨rfl,rfl⟩
 | [],_::_,l,h,l',r,e,hk=>by cases h
 | _::_,[],l,h,l',r,e,hk=>by cases h
 | h::hs,o::os,l,hc,l',r,e,hk=>by
  have Ev:(match qL g h o with
   | some a=>(match ug g hs os with | some b=>some (a++b) | none=>none)
   | none=>none)=some l:=hc
  split at Ev
  case h_2=>cases Ev
  rename_i a ha;split at Ev
  case h_2=>cases Ev
  rename_i b hb;injection Ev with Ev;subst Ev
  obtain ⟨p,q,e0,e1,e2⟩:=er e;subst e0;have hk':(mO h (mZ g h (p++q++r)).1&&qK hs (kV g hs (mZ g h (p++q++r)).2).1)=true:=hk;rw [za0,zaz] at hk';obtain ⟨k1,k2,k3⟩:=CQ hg (F:=F) ha e1 hk'.1;have hk2:=hk'.2;rw [k1] at hk2;obtain ⟨k4,k5⟩:=nQ hg (F:=F) hb e2 hk2;show (_::_).map _=_/\(_::_).map _=_;rw [zaz,k1];exact ⟨by rw [za5,za5,k2,k4],by rw [za5,za5,k3,k5]⟩
theorem E3 {A B:List (TO G)} (h:A.map TO.len=B.map TO.len):kg A=kg B:=by
 funext j
 have h1:=congrArg (fun l=>l[j]?) h;simp only [zay] at h1;unfold kg
 cases ha:A[j]? with
 | none=>rw [ha] at h1;cases hb:B[j]? with
  | none=>rfl
  | some b=>rw [hb] at h1;cases h1
 | some a=>rw [ha] at h1;cases hb:B[j]? with
  | none=>rw [hb] at h1;cases h1
  | some b=>rw [hb] at h1;injection h1
mutual
def indep:TV G->Bool
 | .own _=>false
 | .pe ..=>false
 | .qx es=>jh es
 | .agg l=>ic l
 | .bl l=>ic l
 | .bZ l=>ic l
 | .fn _ l=>ic l
 | _=>true
def ic:List (TV G)->Bool
 | []=>true
 | x::xs=>indep x&&ic xs
def jh:List (List (TV G))->Bool
 | []=>true
 | x::xs=>ic x&&jh xs
end
mutual
theorem wW {g:Ge G} {ln cj:Nat->Nat}:∀ v:TV G,indep v=true->v.av g ln=v.av g cj
 | .int _ _,_ | .bool _,_ | .str _,_ | .aL _ _,_ | .gC _ _,_ | .po ..,_ | .pa ..,_ | .sa ..,_ | .arr ..,_ | .eg ..,_ | .raw _,_=>rfl
 | .own _,h | .pe ..,h=>by cases h
 | .qx es,h=>by rw [TV.av,TV.av,gi es h]
 | .agg l,h=>by rw [TV.av,TV.av,eR l h]
 | .bl l,h=>by rw [TV.av,TV.av,eR l h]
 | .bZ l,h=>by rw [TV.av,TV.av,eR l h]
 | .fn f l,h=>by rw [TV.av,TV.av,eR l h]
theorem eR {g:Ge G} {ln cj:Nat->Nat}:∀ l:List (TV G),ic l=true->TV.aS g ln l=TV.aS g cj l
 | [],_=>rfl
 | x::l,h=>by
  rw [ic,za0] at h;rw [TV.aS,TV.aS,wW x h.1,eR l h.2]
theorem gi {g:Ge G} {ln cj:Nat->Nat}:∀ l:List (List (TV G)),jh l=true->TV.dc g ln l=TV.dc g cj l
 | [],_=>rfl
 | x::l,h=>by
  rw [jh,za0] at h;rw [TV.dc,TV.dc,eR x h.1,gi l h.2]
end
def pR (u v:TV G):Bool:=match u with
 | .own i=>(match v with | .own j=>Nat.beq i j | _=>false)
 | u=>indep u
theorem tq {g:Ge G} {ln cj:Nat->Nat} {u v:TV G} (h:pR u v=true) (hi:indep u=true->v.av g cj=u.av g ln):u.av g cj=v.av g cj:=by
 unfold pR at h;split at h
 ·split at h
  ·rw [za3 h]
  ·cases h
 ·rw [hi h];exact wW _ h
def JO {α:Type}:List (Nat×α)->Nat->α->List (Nat×α)
 | [],n,x=>[(n,x)]
 | (k,v)::r,n,x=>if k=n then (n,x)::r else if n < k then (n,x)::(k,v)::r else (k,v)::JO r n x
def mg (n:Nat):List Nat->Bool
 | []=>false
 | x::xs=>Nat.beq x n||mg n xs
def Cj (A:List Nat):List (Nat×TV G)->List (Nat×(Sh⊕TV G))
 | []=>[]
 | p::r=>if mg p.1 A then Cj A r else (p.1,.inr p.2)::Cj A r
def Ki:List (Nat×(Sh⊕TV G))->List (Nat×Sh)->List (Nat×(Sh⊕TV G))
 | m,[]=>m
 | m,p::r=>Ki (JO m p.1 (.inl p.2)) r
def o7 (g:Ge G):List (Nat×(Sh⊕TV G))->List (Nat×TV G)->Option (List (TV G))
 | [],l=>(match l with | []=>some [] | _::_=>none)
 | p::m,l=>(match l with
  | q::l=>if Nat.beq p.1 q.1 then (match p.2 with
   | .inl s=>(match Sh.coll g s q.2 with
    | some a=>(match o7 g m l with | some b=>some (a++b) | none=>none)
    | none=>none)
   | .inr u=>if pR u q.2 then o7 g m l else none) else none
  | []=>none)
def j8 (g:Ge G):List (Nat×(Sh⊕TV G))->List (TV G)->List (Nat×TV G)×List (TV G)
 | [],l=>([],l)
 | p::m,l=>(match p.2 with
  | .inl s=>((p.1,(Sh.eN g s l).1)::(j8 g m (Sh.eN g s l).2).1,(j8 g m (Sh.eN g s l).2).2)
  | .inr u=>((p.1,u)::(j8 g m l).1,(j8 g m l).2))
theorem lC {g:Ge G} {VV ln:Nat->Nat}:∀ {m:List (Nat×(Sh⊕TV G))} {sl:List (Nat×TV G)} {l:List (TV G)},o7 g m sl=some l->(∀ x u v,(x,Sum.inr u)∈m->(x,v)∈sl->indep u=true->v.av g ln=u.av g VV)->
 ∀ l' r,TV.aS g ln l'=TV.aS g ln l->∃ Ga,j8 g m (l'++r)=(Ga,r)/\dR g ln Ga=dR g ln sl
 | [],[],l,h,ha,l',r,e=>by injection h with h;subst h;rw [gN e];exact ⟨[],rfl,rfl⟩
 | [],_::_,l,h,ha,l',r,e=>by cases h
 | _::_,[],l,h,ha,l',r,e=>by cases h
 | p::m,q::sl,l,h,ha,l',r,e=>by
  have h':(if Nat.beq p.1 q.1 then (match p.2 with
   | .inl s=>(match Sh.coll g s q.2 with
    | some a=>(match o7 g m sl with | some b=>some (a++b) | none=>none)
    | none=>none)
   | .inr u=>if pR u q.2 then o7 g m sl else none) else none)=some l:=h
  split at h'
  case isFalse=>cases h'
  rename_i hx;have hx:=za3 hx;obtain ⟨x,p2⟩:=p;obtain ⟨y,v⟩:=q;dsimp only at hx h';subst hx;have Sy:∀ x u v,(x,Sum.inr u)∈m->(x,v)∈sl->indep u=true->v.av g ln=u.av g VV:=fun x u v h1 h2=>ha x u v (zaC _ h1) (zaC _ h2)
  cases p2 with
  | inl s=>
   dsimp only at h';split at h'
   case h_2=>cases h'
   rename_i a hc;split at h'
   case h_2=>cases h'
   rename_i b hb;injection h' with h';subst h'
   obtain ⟨p,q,e0,e1,e2⟩:=er e;subst e0;obtain ⟨v',k1,k2⟩:=qV s v a hc p (q++r) e1;obtain ⟨Ga,k3,k4⟩:=lC hb Sy q r e2;refine ⟨(x,v')::Ga,?_,?_⟩
   ·show (_::_,_)=_;rw [zaz,k1];dsimp only;rw [k3]
   ·show (x,_)::dR g ln Ga=(x,_)::dR g ln sl;rw [k2,k4]
  | inr u=>
   dsimp only at h';split at h'
   case isFalse=>cases h'
   rename_i hk;obtain ⟨Ga,k3,k4⟩:=lC h' Sy l' r e;refine ⟨(x,u)::Ga,?_,?_⟩
   ·show (_::_,_)=_;rw [k3]
   ·show (x,_)::dR g ln Ga=(x,_)::dR g ln sl;rw [k4,tq (ln:=VV) hk (fun hi=>ha x u v (zb4 ..) (zb4 ..) hi)]
def vh:List (TV G)->List (TV G)->Bool
 | [],l=>(match l with | []=>true | _::_=>false)
 | u::us,l=>(match l with | v::vs=>pR u v&&vh us vs | []=>false)
theorem xU {g:Ge G} {ln cj:Nat->Nat}:∀ {us vs:List (TV G)},vh us vs=true->TV.aS g cj vs=TV.aS g ln us->TV.aS g cj us=TV.aS g cj vs
 | [],[],_,_=>rfl
 | [],_::_,h,_=>by cases h
 | _::_,[],h,_=>by cases h
 | u::us,v::vs,h,e=>by
  have h:(pR u v&&vh us vs)=true:=h;rw [za0] at h;rw [TV.aS,TV.aS] at e;injection e with e1 e2
  rw [TV.aS,TV.aS,tq (ln:=ln) h.1 (fun _=>e1),xU h.2 e2]
def Gs (u v:TV G):Bool:=match u,v with
 | .agg l,.agg m=>ic l||vh l m
 | .pe i _ o,.pe j _ q=>Nat.beq i j&&Nat.beq o q
 | u,v=>pR u v
theorem Mw {g:Ge G} {ln cj:Nat->Nat} {u v:TV G} (h:Gs u v=true) (hi:v.av g cj=u.av g ln):u.av g cj=v.av g cj:=by
 unfold Gs at h;split at h
 ·rename_i l m;rw [TV.av,TV.av] at hi ⊢;injection hi with hi
  rw [zat] at h;rcases h with h | h
  ·rw [hi,eR l h]
  ·rw [xU h hi]
 ·rename_i i n o j m q;rw [za0] at h;have e1:=za3 h.1;have e2:=za3 h.2;subst e1;subst e2;injection hi with _ _ hi _
  show AV.aA i (cj i) n.toNat o=AV.aA i (cj i) m.toNat o;rw [hi]
 ·exact tq (ln:=ln) h (fun _=>hi)
def WM:List (Nat×TV G)->List (Nat×TV G)->Bool
 | [],l=>(match l with | []=>true | _::_=>false)
 | p::r,l=>(match l with | q::l=>Gs p.2 q.2&&WM r l | []=>false)
def ON:List (Nat×List (Nat×TV G)×C3)->List (Nat×List (Nat×TV G)×C3)->Bool
 | [],l=>(match l with | []=>true | _::_=>false)
 | p::r,l=>(match l with | q::l=>WM p.2.1 q.2.1&&ON r l | []=>false)
theorem K9 {g:Ge G} {ln cj:Nat->Nat}:∀ {a b:List (Nat×TV G)},WM a b=true->dR g cj b=dR g ln a->dR g cj a=dR g cj b
 | [],[],_,_=>rfl
 | [],_::_,h,_=>by cases h
 | _::_,[],h,_=>by cases h
 | p::r,q::l,h,e=>by
  have h:(Gs p.2 q.2&&WM r l)=true:=h;rw [za0] at h;have e:(q.1,q.2.av g cj)::dR g cj l=(p.1,p.2.av g ln)::dR g ln r:=e;injection e with e1 e2
  injection e1 with e3 e4
  show (p.1,_)::dR g cj r=(q.1,_)::dR g cj l;rw [Mw (ln:=ln) h.1 e4,K9 h.2 e2,e3]
theorem GV {g:Ge G} {ln cj:Nat->Nat}:∀ {a b:List (Nat×List (Nat×TV G)×C3)},ON a b=true->
 (b.map fun f=>((⟨f.1,dR g cj f.2.1⟩:T),f.2.2))=(a.map fun f=>((⟨f.1,dR g ln f.2.1⟩:T),f.2.2))->(a.map fun f=>((⟨f.1,dR g cj f.2.1⟩:T),f.2.2))=(b.map fun f=>((⟨f.1,dR g cj f.2.1⟩:T),f.2.2))
 | [],[],_,_=>rfl
 | [],_::_,h,_=>by cases h
 | _::_,[],h,_=>by cases h
 | p::r,q::l,h,e=>by
  have h:(WM p.2.1 q.2.1&&ON r l)=true:=h;rw [za0] at h;rw [za5,za5] at e;injection e with e1 e2
  injection e1 with e3 e4
  injection e3 with e5 e6
  rw [za5,za5,GV h.2 e2,K9 h.1 e6,e5,e4]
def yQ:List (Nat×TV G)->Bool
 | []=>true
 | p::r=>(match r with | []=>true | q::_=>Nat.blt p.1 q.1)&&yQ r
theorem Bk {g:Ge G} {ln:Nat->Nat}:∀ {l:List (Nat×TV G)},yQ l=true->T.Jk (T.keys (dR g ln l))
 | [],_=>List.Pairwise.nil
 | [p],_=>List.pairwise_singleton _ _
 | p::q::r,h=>by
  have h:(Nat.blt p.1 q.1&&yQ (q::r))=true:=h;rw [za0] at h;have ih:=Bk (g:=g) (ln:=ln) h.2;have h1:p.1 < q.1:=by simpa [zbS] using h.1
  refine List.Pairwise.cons ?_ ih;intro k hk;rcases zam.1 hk with rfl | hk
  ·exact h1
  ·exact Nat.lt_trans h1 ((zaB.1 ih).1 k hk)
def Tm.M (P:Tm) (A:List Nat) (s:DS G):List (Nat×(Sh⊕TV G)):=Ki (Cj A s.sl) P.sl
def Tm.eN (g:Ge G) (P:Tm) (A:List Nat) (s:DS G) (w:DL G P.ts):DS G:=
 ⟨s.sz,(j8 g (P.M A s) (aM g P.ts w)).1,(kV g P.H (j8 g (P.M A s) (aM g P.ts w)).2).1,s.fr⟩
def Tm.coll (g:Ge G) (P:Tm) (A:List Nat) (s s':DS G):Option (DL G P.ts):=
 if Nat.beq s'.sz s.sz&&(yQ s'.sl&&(ON s.fr s'.fr&&yQ s.sl)) then
  (match o7 g (P.M A s) s'.sl with
   | some a=>(match ug g P.H s'.H with
    | some b=>(match nq g P.ts (a++b) with
     | some w=>if qK P.H (P.eN g A s w).H&&yQ (P.eN g A s w).sl then some w else none
     | none=>none)
    | none=>none)
   | none=>none)
 else none
theorem xe {A:List Nat}:∀ {l:List (Nat×TV G)} {x:Nat} {u:TV G},(x,Sum.inr u)∈Cj A l->mg x A=false/\(x,u)∈l
 | [],x,u,h=>by cases h
 | p::r,x,u,h=>by
  rw [Cj] at h;split at h
  ·obtain ⟨h1,h2⟩:=xe h;exact ⟨h1,zaC _ h2⟩
  ·rename_i hn;rcases zam.1 h with e | h
   ·injection e with e1 e2;injection e2 with e2
    subst e1;subst e2;exact ⟨by simpa using hn,zb4 ..⟩
   ·obtain ⟨h1,h2⟩:=xe h;exact ⟨h1,zaC _ h2⟩
theorem CW {α:Type}:∀ {l:List (Nat×α)} {n:Nat} {x:α} {p:Nat×α},p∈JO l n x->p=(n,x)\/p∈l
 | [],n,x,p,h=>by simpa [JO] using h
 | (k,v)::r,n,x,p,h=>by
  rw [JO] at h;split at h
  ·rcases zam.1 h with h | h
   ·exact .inl h
   ·exact .inr (zaC _ h)
  split at h
  ·rcases zam.1 h with h | h
   ·exact .inl h
   ·exact .inr h
  ·rcases zam.1 h with h | h
   ·exact .inr (h▸zb4 ..)
   ·rcases CW h with h | h
    ·exact .inl h
    ·exact .inr (zaC _ h)
theorem zN:∀ {r:List (Nat×Sh)} {m:List (Nat×(Sh⊕TV G))} {x:Nat} {u:TV G},(x,Sum.inr u)∈Ki m r->(x,Sum.inr u)∈m
 | [],m,x,u,h=>h
 | p::r,m,x,u,h=>by
  rcases CW (zN h) with e | h
  ·injection e with _ e;cases e
  ·exact h
theorem Tm.srt {g:Ge G} {P:Tm} {A:List Nat} {s s':DS G} {w:DL G P.ts} (h:P.coll g A s s'=some w):yQ s.sl=true/\yQ (P.eN g A s w).sl=true:=by
 unfold Tm.coll at h;split at h
 case isFalse=>cases h
 rename_i hc;simp only [za0] at hc;split at h
 case h_2=>cases h
 split at h
 case h_2=>cases h
 split at h
 case h_2=>cases h
 rename_i w' hw;split at h
 case isFalse=>cases h
 rename_i hk;rw [za0] at hk;injection h with h;subst h
 exact ⟨hc.2.2.2,hk.2⟩
theorem PE {g:Ge G} {s:DS G} (h:yQ s.sl=true) {x:Nat} {u:TV G} (hm:(x,u)∈s.sl):(s.tm g).get x=u.av g s.ln:=
 T.rH _ (Bk h) x _ (zbv.2 ⟨(x,u),hm,rfl⟩)
theorem jO {g:Ge G} {P:Tm} {A:List Nat} {s:DS G} (h:yQ s.sl=true) {x:Nat} {u:TV G} (hm:(x,Sum.inr u)∈P.M A s):(s.tm g).get x=u.av g s.ln/\mg x A=false:=by
 obtain ⟨h4,h5⟩:=xe (zN hm);exact ⟨PE h h5,h4⟩
theorem Tm.ok {g:Ge G} (hg:g.Ok) {P:Tm} {A:List Nat} {s s':DS G} {w:DL G P.ts} (h:P.coll g A s s'=some w)
 (ha:∀ x u,(x,Sum.inr u)∈P.M A s->indep u=true->(s'.tm g).get x=u.av g s.ln) (hf:s'.FR g=s.FR g):(P.eN g A s w).st g=s'.st g/\(P.eN g A s w).FR g=s'.FR g:=by
 unfold Tm.coll at h;split at h
 case isFalse=>cases h
 rename_i hc;simp only [za0] at hc;have hsz:=za3 hc.1;split at h
 case h_2=>cases h
 rename_i a hma;split at h
 case h_2=>cases h
 rename_i b hb;split at h
 case h_2=>cases h
 rename_i w' hw;split at h
 case isFalse=>cases h
 rename_i hk;rw [za0] at hk;have hk:=hk.1;injection h with h;subst h
 have e1:TV.aS g s'.ln (aM g P.ts w')=TV.aS g s'.ln (a++b):=by rw [ig hg,kB hg s'.ln _ _ _ hw]
 obtain ⟨p,q,e0,e2,e3⟩:=er e1;have hm:∀ x u v,(x,Sum.inr u)∈P.M A s->(x,v)∈s'.sl->indep u=true->v.av g s'.ln=u.av g s.ln:=by
  intro x u v h1 h2 h3;rw [<-ha x u h1 h3];have:(x,v.av g s'.ln)∈dR g s'.ln s'.sl:=zbv.2 ⟨(x,v),h2,rfl⟩;exact (T.rH _ (Bk hc.2.1) x _ this).symm
 obtain ⟨Ga,k1,k2⟩:=lC hma hm p q e2;have hk':qK P.H (kV g P.H (q++[])).1=true:=by
  have:(P.eN g A s w').H=(kV g P.H (q++[])).1:=by
   unfold Tm.eN;dsimp only;rw [e0,k1,zbo]
  rw [<-this];exact hk
 obtain ⟨k3,k4⟩:=nQ hg (F:=s'.FR g) hb e3 hk';rw [zbo] at k3 k4;have hH:(P.eN g A s w').H=(kV g P.H q).1:=by unfold Tm.eN;dsimp only;rw [e0,k1]
 have hs:(P.eN g A s w').sl=Ga:=by unfold Tm.eN;dsimp only;rw [e0,k1]
 have AA:(P.eN g A s w').ln=s'.ln:=by
  unfold DS.ln;rw [hH];exact E3 k4
 have yD:(P.eN g A s w').FR g=s'.FR g:=by
  unfold DS.FR;rw [AA];exact GV (ln:=s.ln) hc.2.2.1 hf
 refine ⟨?_,yD⟩;unfold DS.st DS.tm DS.Hv;rw [AA,yD,hH,hs,k2,k3];show (⟨⟨s.sz,_⟩,_⟩:ST)=_;rw [hsz]
end
end oZ
end
