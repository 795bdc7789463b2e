/- Typed states: the machine's states with plain values in them, and what they stand for. No condition. -/
import Derived.Test.YtafgdbaekppjcaaGreatDoorAmP0
set_option linter.unusedSectionVars false
set_option linter.unusedVariables false
set_option linter.unusedSimpArgs false
namespace Dnm
open Go hiding Obj mark
open Go.Pl Go.Am Go.Am.As
inductive Ty where
 | int (k:IntKind)
 | bool
 | str
 | list (t:Ty)
 | olist (t:Ty)
 | st (i:Nat)
 | arr (n:Nat) (t:Ty)
 | ptr (t:Ty)
 | optr (t:Ty)
 deriving DecidableEq,Inhabited
def Ty.D (G:Nat→Type):Ty→Type
 | int _=>Int
 | bool=>Bool
 | str=>List UInt8
 | list t=>List (t.D G)
 | olist t=>Option (List (t.D G))
 | st i=>G i
 | arr n t=>Arr n (t.D G)
 | ptr t=>t.D G
 | optr t=>Option (t.D G)
inductive TV (G:Nat→Type) where
 | int (k:IntKind) (n:Int)
 | bool (b:Bool)
 | str (s:List UInt8)
 | lst (t:Ty) (l:List (t.D G))
 | olst (t:Ty) (l:Option (List (t.D G)))
 | rol (es:List (List (TV G)))
 | agg (l:List (TV G))
 | tup (l:List (TV G))
 | pro (l:List (TV G))
 | fn (f:Nat) (l:List (TV G))
 | po (id o:Nat)
 | own (id:Nat)
 | pe (id:Nat) (i:Int) (o:Nat)
 | pa (id sz:Nat) (i:Int) (o:Nat)
 | sa (id lo len n:Nat) (h:lo+len≤n)
 | arr (n:Nat) (t:Ty) (a:Arr n (t.D G))
 | optr (t:Ty) (x:Option (t.D G))
 | raw (v:AV)
structure Ge (G:Nat→Type) where
 n:Nat→Nat
 enc:(i:Nat)→G i→List AV
 view:(i:Nat)→G i→List (TV G)
 mkv:(i:Nat)→List (TV G)→Option (G i)
inductive TO (G:Nat→Type) where
 | box (l:List (TV G))
 | lst (fl:Fl) (t:Ty) (l:List (t.D G))
 | raws (fl:Fl) (sz:Nat) (es:List (List (TV G)))
 | mix (fl:Fl) (t:Ty) (l:List (t.D G)) (es:List (List (TV G)))
 | arr (n:Nat) (t:Ty) (a:Arr n (t.D G))
 | dead
 | rsv
 | lp (s:Ls) (fi:Nat)
abbrev C3:=List Nat×RC×RC
structure DS (G:Nat→Type) where
 sz:Nat
 sl:List (Nat×TV G)
 H:List (TO G)
 fr:List (Nat×List (Nat×TV G)×C3)
section
variable {G:Nat→Type}
def Ty.n (g:Ge G):Ty→Nat
 | .st i=>g.n i
 | .arr n t=>n*t.n g
 | _=>1
def encP {α:Type} (C:α→List AV):Option α→AV
 | none=> .nilp
 | some x=> .pro (C x)
theorem encP_cells {α:Type} (C:α→List AV) (o:Option α):(encP C o).cells=[encP C o]:=by cases o<;>rfl
def enc (g:Ge G):(t:Ty)→t.D G→List AV
 | .int k,n=>[.int k n]
 | .bool,b=>[.bool b]
 | .str,s=>[.str s]
 | .list t,l=>[.ro (List.map (enc g t) l)]
 | .olist t,o=>[encO (enc g t) o]
 | .st i,x=>g.enc i x
 | .arr _ t,a=>(List.map (enc g t) a.1).flatten
 | .ptr t,x=>[.pro (enc g t x)]
 | .optr t,o=>[encP (enc g t) o]
def va (g:Ge G):(t:Ty)→t.D G→AV
 | .int k,n=> .int k n
 | .bool,b=> .bool b
 | .str,s=> .str s
 | .list t,l=> .ro (List.map (enc g t) l)
 | .olist t,o=>encO (enc g t) o
 | .st i,x=> .agg (g.enc i x)
 | .arr _ t,a=> .agg (List.map (enc g t) a.1).flatten
 | .ptr t,x=> .pro (enc g t x)
 | .optr t,o=>encP (enc g t) o
def TV.cells (g:Ge G):TV G→List (TV G)
 | .agg l=>l
 | .raw v=>v.cells.map .raw
 | .arr _ t a=>(List.map (enc g t) a.1).flatten.map .raw
 | v=>[v]
def view (g:Ge G):(t:Ty)→t.D G→TV G
 | .int k,n=> .int k n
 | .bool,b=> .bool b
 | .str,s=> .str s
 | .list t,l=> .lst t l
 | .olist t,o=> .olst t o
 | .st i,x=> .agg (g.view i x)
 | .arr n t,a=> .arr n t a
 | .ptr t,x=> .pro ((view g t x).cells g)
 | .optr t,o=> .optr t o
mutual
def TV.av (g:Ge G) (ln:Nat→Nat):TV G→AV
 | .int k n=> .int k n
 | .bool b=> .bool b
 | .str s=> .str s
 | .lst t l=> .ro (List.map (enc g t) l)
 | .olst t o=>encO (enc g t) o
 | .rol es=> .ro (TV.avss g ln es)
 | .agg l=> .agg (TV.avs g ln l)
 | .tup l=> .tup (TV.avs g ln l)
 | .pro l=> .pro (TV.avs g ln l)
 | .fn f l=> .fn f (TV.avs g ln l)
 | .po id o=> .pown id 1 0 o
 | .own id=> .own id (ln id) 0 (ln id)
 | .pe id i o=> .pown id (ln id) i.toNat o
 | .pa id sz i o=> .pown id 1 0 (i.toNat*sz+o)
 | .sa id lo len _ _=>if len=0 then .ro [] else .arr id 1 0 lo 1 len
 | .arr _ t a=> .agg (List.map (enc g t) a.1).flatten
 | .optr t o=>encP (enc g t) o
 | .raw v=>v
def TV.avs (g:Ge G) (ln:Nat→Nat):List (TV G)→List AV
 | []=>[]
 | x::xs=>x.av g ln::TV.avs g ln xs
def TV.avss (g:Ge G) (ln:Nat→Nat):List (List (TV G))→List (List AV)
 | []=>[]
 | x::xs=>TV.avs g ln x::TV.avss g ln xs
end
structure Ge.Ok (g:Ge G):Prop where
 ok:∀ i,EncOk (g.enc i) (g.n i)
 view:∀ i x ln,TV.avs g ln (g.view i x)=g.enc i x
 mkv:∀ i l x ln,g.mkv i l=some x→TV.avs g ln l=g.enc i x
theorem avs_map (g:Ge G) (ln:Nat→Nat):∀ l:List (TV G),TV.avs g ln l=l.map (TV.av g ln)
 | []=>rfl
 | x::l=>by rw [TV.avs,avs_map g ln l];rfl
theorem avss_map (g:Ge G) (ln:Nat→Nat):∀ l:List (List (TV G)),TV.avss g ln l=l.map (TV.avs g ln)
 | []=>rfl
 | x::l=>by rw [TV.avss,avss_map g ln l];rfl
theorem avs_len (g:Ge G) (ln:Nat→Nat) (l:List (TV G)):(TV.avs g ln l).length=l.length:=by rw [avs_map];simp
theorem allOne_app:∀ {l m:List AV},allOne l=true→allOne m=true→allOne (l++m)=true
 | [],_,_,h=>h
 | x::l,m,h,h'=>by
  simp only [allOne,Bool.and_eq_true,List.cons_append] at h ⊢
  exact ⟨h.1,allOne_app h.2 h'⟩
theorem encOk {g:Ge G} (hg:g.Ok):∀ t:Ty,EncOk (enc g t) (t.n g)
 | .int _=>⟨fun _=>rfl,fun _=>rfl,fun _=>rfl⟩
 | .bool=>⟨fun _=>rfl,fun _=>rfl,fun _=>rfl⟩
 | .str=>⟨fun _=>rfl,fun _=>rfl,fun _=>rfl⟩
 | .list _=>⟨fun _=>rfl,fun _=>rfl,fun _=>rfl⟩
 | .olist _=>⟨fun _=>rfl,fun x=>by cases x<;>rfl,fun x=>by cases x<;>rfl⟩
 | .st i=>hg.ok i
 | .ptr _=>⟨fun _=>rfl,fun _=>rfl,fun _=>rfl⟩
 | .optr _=>⟨fun _=>rfl,fun x=>by cases x<;>rfl,fun x=>by cases x<;>rfl⟩
 | .arr n t=>by
  have ih:=encOk hg t
  refine ⟨fun a=>?_,fun a=>?_,fun a=>?_⟩
  ·have:∀ l:List (t.D G),(List.map (enc g t) l).flatten.length=l.length*t.n g:=by
    intro l;induction l with
    | nil=>simp
    | cons x l ih'=>simp only [List.map_cons,List.flatten_cons,List.length_append,ih',ih.len,List.length_cons,Nat.succ_mul];omega
   show (List.map (enc g t) a.1).flatten.length=_
   rw [this,a.2];rfl
  ·show allOne (List.map (enc g t) a.1).flatten=true
   induction a.1 with
   | nil=>rfl
   | cons x l ih'=>rw [List.map_cons,List.flatten_cons];exact allOne_app (ih.one x) ih'
  ·show AV.bels 0 (List.map (enc g t) a.1).flatten=true
   induction a.1 with
   | nil=>rfl
   | cons x l ih'=>rw [List.map_cons,List.flatten_cons];exact bels_append (ih.bel x) ih'
theorem raw_avs (g:Ge G) (ln:Nat→Nat) (l:List AV):TV.avs g ln (l.map .raw)=l:=by
 rw [avs_map];induction l with
 | nil=>rfl
 | cons x l ih=>simp only [List.map_cons,TV.av,List.cons.injEq,true_and];exact ih
theorem encO_cells {α:Type} (C:α→List AV) (o:Option (List α)):(encO C o).cells=[encO C o]:=by cases o<;>rfl
theorem av_cells (g:Ge G) (ln:Nat→Nat) (v:TV G):(v.av g ln).cells=TV.avs g ln (v.cells g):=by
 cases v with
 | raw v=>exact (raw_avs g ln _).symm
 | olst t o=>exact encO_cells _ o
 | optr t o=>exact encP_cells _ o
 | arr n t a=>exact (raw_avs g ln _).symm
 | sa id lo len=>simp only [TV.av,TV.cells,TV.avs];split<;>rfl
 | _=>rfl
theorem va_cells (g:Ge G):∀ (t:Ty) (x:t.D G),(va g t x).cells=enc g t x
 | .int _,_ | .bool,_ | .str,_ | .list _,_=>rfl
 | .olist _,o=>encO_cells _ o
 | .optr _,o=>encP_cells _ o
 | .st _,_ | .arr _ _,_ | .ptr _,_=>rfl
theorem view_av {g:Ge G} (hg:g.Ok) (ln:Nat→Nat):∀ (t:Ty) (x:t.D G),(view g t x).av g ln=va g t x
 | .int _,_ | .bool,_ | .str,_ | .list _,_ | .olist _,_ | .arr _ _,_ | .optr _,_=>rfl
 | .st i,x=>congrArg AV.agg (hg.view i x ln)
 | .ptr t,x=>congrArg AV.pro ((av_cells g ln (view g t x)).symm.trans ((congrArg AV.cells (view_av hg ln t x)).trans (va_cells g t x)))
theorem view_avs {g:Ge G} (hg:g.Ok) (ln:Nat→Nat) (t:Ty) (x:t.D G):TV.avs g ln ((view g t x).cells g)=enc g t x:=by
 rw [←av_cells,view_av hg,va_cells]
def mapm {α β:Type} (f:α→Option β):List α→Option (List β)
 | []=>some []
 | x::xs=>match f x with
  | some y=>(match mapm f xs with | some ys=>some (y::ys) | none=>none)
  | none=>none
def oneC (t:Ty) (cs:List (TV G)):TV G:=match t with
 | .st _=> .agg cs
 | .arr _ _=> .agg cs
 | _=>match cs with
  | [v]=>v
  | _=> .raw .any
def asI (k:IntKind):TV G→Option Int
 | .int k' n=>if k=k' then some n else none
 | _=>none
def asB:TV G→Option Bool
 | .bool b=>some b
 | _=>none
def asS:TV G→Option (List UInt8)
 | .str b=>some b
 | _=>none
def asL (t:Ty) (f:List (TV G)→Option (t.D G)):TV G→Option (List (t.D G))
 | .lst u l=>if h:u=t then some (h▸l) else none
 | .rol es=>mapm f es
 | _=>none
def nilO {α:Type}:AV→Option (Option α)
 | .nils=>some none
 | _=>none
def asO (t:Ty):TV G→Option (Option (List (t.D G)))
 | .olst u l=>if h:u=t then some (h▸l) else none
 | .lst u l=>if h:u=t then some (some (h▸l)) else none
 | .raw a=>nilO a
 | _=>none
def asA {α:Type} (f:List (TV G)→Option α):TV G→Option α
 | .agg l=>f l
 | _=>none
def asR (n:Nat) (t:Ty) (f:TV G→Option (t.D G)):TV G→Option (Arr n (t.D G))
 | .arr m u a=>if h:m=n∧u=t then some (h.1▸h.2▸a) else none
 | .agg l=>(match mapm f l with
  | some m=>if h:m.length=n then some ⟨m,h⟩ else none
  | none=>none)
 | _=>none
def asP {α:Type} (f:List (TV G)→Option α):TV G→Option α
 | .pro l=>f l
 | _=>none
def nilQ' {α:Type}:AV→Option (Option α)
 | .nilp=>some none
 | _=>none
def asQ (t:Ty) (f:List (TV G)→Option (t.D G)):TV G→Option (Option (t.D G))
 | .optr u x=>if h:u=t then some (h▸x) else none
 | .pro l=>(match f l with | some x=>some (some x) | none=>none)
 | .raw a=>nilQ' a
 | _=>none
def asT (g:Ge G):(t:Ty)→TV G→Option (t.D G)
 | .int k=>asI k
 | .bool=>asB
 | .str=>asS
 | .list t=>asL t fun cs=>asT g t (oneC t cs)
 | .olist t=>asO t
 | .st i=>asA (g.mkv i)
 | .arr n t=>asR n t fun v=>asT g t (oneC t [v])
 | .ptr t=>asP fun cs=>asT g t (oneC t cs)
 | .optr t=>asQ t fun cs=>asT g t (oneC t cs)
theorem asI_ok {k:IntKind} {v:TV G} {x:Int} (h:asI k v=some x):v= .int k x:=by
 cases v with
 | int k' n=>
  unfold asI at h
  dsimp only at h
  split at h
  ·rename_i e;injection h with h;subst h;subst e;rfl
  ·cases h
 | _=>cases h
theorem asB_ok {v:TV G} {x:Bool} (h:asB v=some x):v= .bool x:=by
 cases v with
 | bool b=>injection h with h;subst h;rfl
 | _=>cases h
theorem asS_ok {v:TV G} {x:List UInt8} (h:asS v=some x):v= .str x:=by
 cases v with
 | str b=>injection h with h;subst h;rfl
 | _=>cases h
theorem asL_ok {t:Ty} {f:List (TV G)→Option (t.D G)} {v:TV G} {x:List (t.D G)} (h:asL t f v=some x):v= .lst t x∨∃ es,v= .rol es∧mapm f es=some x:=by
 cases v with
 | lst u l=>
  unfold asL at h
  dsimp only at h
  split at h
  ·rename_i e;subst e;injection h with h;subst h;exact .inl rfl
  ·cases h
 | rol es=>exact .inr ⟨es,rfl,h⟩
 | _=>cases h
theorem asO_ok {t:Ty} {v:TV G} {x:Option (List (t.D G))} (h:asO t v=some x):v= .olst t x∨(∃ l,v= .lst t l∧x=some l)∨(v= .raw .nils∧x=none):=by
 cases v with
 | olst u l=>
  unfold asO at h
  dsimp only at h
  split at h
  ·rename_i e;subst e;injection h with h;subst h;exact .inl rfl
  ·cases h
 | lst u l=>
  unfold asO at h
  dsimp only at h
  split at h
  ·rename_i e;subst e;injection h with h;subst h;exact .inr (.inl ⟨l,rfl,rfl⟩)
  ·cases h
 | raw a=>
  cases a with
  | nils=>injection h with h;subst h;exact .inr (.inr ⟨rfl,rfl⟩)
  | _=>cases h
 | _=>cases h
theorem asA_ok {α:Type} {f:List (TV G)→Option α} {v:TV G} {x:α} (h:asA f v=some x):∃ l,v= .agg l∧f l=some x:=by
 cases v with
 | agg l=>exact ⟨l,rfl,h⟩
 | _=>cases h
theorem mapm_ok {α β γ:Type} {f:α→Option β} {C:β→γ} {c:α→γ} (h:∀ x y,f x=some y→c x=C y):∀ {l:List α} {m:List β},mapm f l=some m→l.map c=m.map C
 | [],m,e=>by simp only [mapm,Option.some.injEq] at e;subst e;rfl
 | x::l,m,e=>by
  rw [mapm] at e
  split at e
  case h_2=>cases e
  rename_i y hy
  split at e
  case h_2=>cases e
  rename_i ys hys
  injection e with e;subst e
  simp only [List.map_cons,h _ _ hy,mapm_ok h hys]
theorem asR_ok {n:Nat} {t:Ty} {f:TV G→Option (t.D G)} {v:TV G} {x:Arr n (t.D G)} (h:asR n t f v=some x):v= .arr n t x∨∃ l,v= .agg l∧mapm f l=some x.1:=by
 cases v with
 | arr m u a=>
  unfold asR at h
  dsimp only at h
  split at h
  ·rename_i e;obtain ⟨rfl,rfl⟩:=e;injection h with h;subst h;exact .inl rfl
  ·cases h
 | agg l=>
  unfold asR at h
  dsimp only at h
  split at h
  case h_2=>cases h
  rename_i m hm
  split at h
  case isFalse=>cases h
  injection h with h;subst h
  exact .inr ⟨l,rfl,hm⟩
 | _=>cases h
theorem asP_ok {α:Type} {f:List (TV G)→Option α} {v:TV G} {x:α} (h:asP f v=some x):∃ l,v= .pro l∧f l=some x:=by
 cases v with
 | pro l=>exact ⟨l,rfl,h⟩
 | _=>cases h
theorem asQ_ok {t:Ty} {f:List (TV G)→Option (t.D G)} {v:TV G} {x:Option (t.D G)} (h:asQ t f v=some x):v= .optr t x∨(∃ l y,v= .pro l∧f l=some y∧x=some y)∨(v= .raw .nilp∧x=none):=by
 cases v with
 | optr u y=>
  unfold asQ at h
  dsimp only at h
  split at h
  ·rename_i e;subst e;injection h with h;subst h;exact .inl rfl
  ·cases h
 | pro l=>
  unfold asQ at h
  dsimp only at h
  split at h
  case h_2=>cases h
  rename_i y hy
  injection h with h
  exact .inr (.inl ⟨l,y,rfl,hy,h.symm⟩)
 | raw a=>
  cases a with
  | nilp=>injection h with h;subst h;exact .inr (.inr ⟨rfl,rfl⟩)
  | _=>cases h
 | _=>cases h
theorem oneC_cells {t:Ty} {cs:List (TV G)} {g:Ge G} {x:t.D G} (h:asT g t (oneC t cs)=some x):(oneC t cs).cells g=cs:=by
 cases t with
 | st i=>rfl
 | int k=>
  match cs,h with
  | [v],h=>have:=asI_ok (v:=v) h;subst this;rfl
  | [],h=>cases h
  | _::_::_,h=>cases h
 | bool=>
  match cs,h with
  | [v],h=>have:=asB_ok (v:=v) h;subst this;rfl
  | [],h=>cases h
  | _::_::_,h=>cases h
 | str=>
  match cs,h with
  | [v],h=>have:=asS_ok (v:=v) h;subst this;rfl
  | [],h=>cases h
  | _::_::_,h=>cases h
 | list t=>
  match cs,h with
  | [v],h=>
   rcases asL_ok (v:=v) h with e | ⟨es,e,_⟩<;>(subst e;rfl)
  | [],h=>cases h
  | _::_::_,h=>cases h
 | olist t=>
  match cs,h with
  | [v],h=>
   rcases asO_ok (v:=v) h with e | ⟨es,e,_⟩ | ⟨e,_⟩<;>(subst e;rfl)
  | [],h=>cases h
  | _::_::_,h=>cases h
 | arr n t=>rfl
 | ptr t=>
  match cs,h with
  | [v],h=>obtain ⟨l,e,_⟩:=asP_ok (v:=v) h;subst e;rfl
  | [],h=>cases h
  | _::_::_,h=>cases h
 | optr t=>
  match cs,h with
  | [v],h=>
   rcases asQ_ok (v:=v) h with e | ⟨l,y,e,_⟩ | ⟨e,_⟩<;>(subst e;rfl)
  | [],h=>cases h
  | _::_::_,h=>cases h
theorem cells_of {g:Ge G} {ln:Nat→Nat} {t:Ty} {cs:List (TV G)} {x:t.D G} (h:asT g t (oneC t cs)=some x) (h1:(oneC t cs).av g ln=va g t x):TV.avs g ln cs=enc g t x:=by
 rw [←va_cells,←h1,av_cells,oneC_cells h]
theorem asT_ok {g:Ge G} (hg:g.Ok) (ln:Nat→Nat):∀ (t:Ty) (v:TV G) (x:t.D G),asT g t v=some x→v.av g ln=va g t x
 | .int k,v,x,h=>by have:=asI_ok (x:=x) h;subst this;rfl
 | .bool,v,x,h=>by have:=asB_ok (x:=x) h;subst this;rfl
 | .str,v,x,h=>by have:=asS_ok (x:=x) h;subst this;rfl
 | .list t,v,x,h=>by
  rcases asL_ok (x:=x) h with e | ⟨es,e,h⟩
  ·subst e;rfl
  ·subst e
   show AV.ro _=AV.ro _
   rw [avss_map,mapm_ok (c:=TV.avs g ln) (C:=enc g t) (fun cs y hy=>?_) h]
   have h1:=asT_ok hg ln t _ _ hy
   rw [←oneC_cells hy,←av_cells,h1,va_cells]
 | .olist t,v,x,h=>by
  rcases asO_ok (x:=x) h with e | ⟨l,e,e2⟩ | ⟨e,e2⟩<;>(subst e;try subst e2)<;>rfl
 | .st i,v,x,h=>by
  obtain ⟨l,e,h⟩:=asA_ok (x:=x) h
  subst e
  exact congrArg AV.agg (hg.mkv i l x ln h)
 | .ptr t,v,x,h=>by
  obtain ⟨l,e,h'⟩:=asP_ok (x:=x) h
  subst e
  exact congrArg AV.pro (cells_of h' (asT_ok hg ln t _ _ h'))
 | .optr t,v,x,h=>by
  rcases asQ_ok (x:=x) h with e | ⟨l,y,e,h',e2⟩ | ⟨e,e2⟩
  ·subst e;rfl
  ·subst e;subst e2
   exact congrArg AV.pro (cells_of h' (asT_ok hg ln t _ _ h'))
  ·subst e;subst e2;rfl
 | .arr n t,v,x,h=>by
  rcases asR_ok (x:=x) h with e | ⟨l,e,h'⟩
  ·subst e;rfl
  ·subst e
   show AV.agg _=AV.agg _
   congr 1
   have h2:l.map (fun v=>TV.avs g ln [v])=List.map (enc g t) x.1:=mapm_ok (f:=fun v=>asT g t (oneC t [v])) (fun v y hy=>by
    have h1:=asT_ok hg ln t _ _ hy
    have h3:=oneC_cells hy
    show TV.avs g ln [v]=_
    rw [←h3,←av_cells,h1,va_cells]) h'
   rw [←h2,avs_map]
   induction l with
   | nil=>rfl
   | cons y l _=>
    have:∀ l:List (TV G),l.map (TV.av g ln)=(l.map fun v=>TV.avs g ln [v]).flatten:=by
     intro l;induction l with
     | nil=>rfl
     | cons y l ih=>rw [List.map_cons,List.map_cons,List.flatten_cons,←ih];rfl
    exact this _
theorem asT_avs {g:Ge G} (hg:g.Ok) {ln:Nat→Nat} {t:Ty} {v:TV G} {x:t.D G} (h:asT g t v=some x):TV.avs g ln (v.cells g)=enc g t x:=by
 rw [←av_cells,asT_ok hg ln t v x h,va_cells]
def TO.len:TO G→Nat
 | .lst _ _ l=>l.length
 | .raws _ _ es=>es.length
 | .mix _ _ l es=>l.length+es.length
 | _=>0
def lnH (H:List (TO G)) (id:Nat):Nat:=match H[id]? with
 | some o=>o.len
 | none=>0
def avL (g:Ge G) (ln:Nat→Nat) (l:List (Nat×TV G)):List (Nat×AV):=l.map fun p=>(p.1,p.2.av g ln)
def TO.av (g:Ge G) (ln:Nat→Nat) (F:List (T×C3)):TO G→Obj
 | .box l=> .live .norm l.length [TV.avs g ln l]
 | .lst fl t l=> .live fl (t.n g) (l.map (enc g t))
 | .raws fl sz es=> .live fl sz (TV.avss g ln es)
 | .mix fl t l es=> .live fl (t.n g) (l.map (enc g t)++TV.avss g ln es)
 | .arr n t a=> .live .norm (n*t.n g) [(List.map (enc g t) a.1).flatten]
 | .dead=> .dead
 | .rsv=> .rsv
 | .lp s fi=>(match F[fi]? with | some f=> .lp s f.1.toL f.2.1 f.2.2.1 f.2.2.2 | none=> .dead)
def DS.ln (s:DS G):Nat→Nat:=lnH s.H
def DS.FR (g:Ge G) (s:DS G):List (T×C3):=s.fr.map fun f=>(⟨f.1,avL g s.ln f.2.1⟩,f.2.2)
def DS.tm (g:Ge G) (s:DS G):T:=⟨s.sz,avL g s.ln s.sl⟩
def DS.Hv (g:Ge G) (s:DS G):List Obj:=s.H.map (TO.av g s.ln (s.FR g))
def DS.st (g:Ge G) (s:DS G):ST:=⟨s.tm g,s.Hv g⟩
def getS:List (Nat×TV G)→Nat→TV G
 | [],_=> .raw .any
 | (k,v)::r,n=>if k=n then v else getS r n
def putS:List (Nat×TV G)→Nat→TV G→List (Nat×TV G)
 | [],n,x=>[(n,x)]
 | (k,v)::r,n,x=>if k=n then (n,x)::r else if n < k then (n,x)::(k,v)::r else (k,v)::putS r n x
def delS:List (Nat×TV G)→Nat→List (Nat×TV G)
 | [],_=>[]
 | (k,v)::r,n=>if k=n then delS r n else (k,v)::delS r n
theorem getS_av (g:Ge G) (ln:Nat→Nat):∀ (l:List (Nat×TV G)) (n:Nat),T.getL (avL g ln l) n=(getS l n).av g ln
 | [],_=>rfl
 | (k,v)::r,n=>by
  show (if k=n then _ else T.getL (avL g ln r) n)=_
  rw [getS_av g ln r n,getS]
  split<;>rfl
theorem putS_av (g:Ge G) (ln:Nat→Nat):∀ (l:List (Nat×TV G)) (n:Nat) (x:TV G),T.putL (avL g ln l) n (x.av g ln)=avL g ln (putS l n x)
 | [],_,_=>rfl
 | (k,v)::r,n,x=>by
  show (if k=n then _ else if n < k then _ else (k,v.av g ln)::T.putL (avL g ln r) n _)=_
  rw [putS_av g ln r n x,putS]
  split
  ·rfl
  split<;>rfl
theorem delS_av (g:Ge G) (ln:Nat→Nat):∀ (l:List (Nat×TV G)) (n:Nat),T.delL (avL g ln l) n=avL g ln (delS l n)
 | [],_=>rfl
 | (k,v)::r,n=>by
  show (if k=n then T.delL (avL g ln r) n else (k,v.av g ln)::T.delL (avL g ln r) n)=_
  rw [delS_av g ln r n,delS]
  split<;>rfl
def DS.get (s:DS G) (n:Nat):TV G:=getS s.sl n
def DS.put (s:DS G) (n:Nat) (v:TV G):DS G:=if n < s.sz then ⟨s.sz,putS s.sl n v,s.H,s.fr⟩ else s
def DS.putD (s:DS G) (d:Option Nat) (v:TV G):DS G:=match d with
 | some d=>s.put d v
 | none=>s
theorem DS.get_av (g:Ge G) (s:DS G) (n:Nat):(s.tm g).get n=(s.get n).av g s.ln:=getS_av g s.ln s.sl n
theorem DS.put_H (s:DS G) (n:Nat) (v:TV G):(s.put n v).H=s.H:=by unfold DS.put;split<;>rfl
theorem DS.put_fr (s:DS G) (n:Nat) (v:TV G):(s.put n v).fr=s.fr:=by unfold DS.put;split<;>rfl
theorem DS.put_FR (g:Ge G) (s:DS G) (n:Nat) (v:TV G):(s.put n v).FR g=s.FR g:=by unfold DS.FR DS.ln;rw [DS.put_H,DS.put_fr]
theorem DS.put_Hv (g:Ge G) (s:DS G) (n:Nat) (v:TV G):(s.put n v).Hv g=s.Hv g:=by unfold DS.Hv;rw [DS.put_FR];unfold DS.ln;rw [DS.put_H]
theorem DS.put_tm (g:Ge G) (s:DS G) (n:Nat) (v:TV G):(s.put n v).tm g=(s.tm g).put n (v.av g s.ln):=by
 unfold DS.put As.T.put
 show _=if n < s.sz then _ else _
 split
 ·show (⟨_,_⟩:T)=⟨_,_⟩
  rw [show (s.tm g).l=avL g s.ln s.sl from rfl,putS_av];rfl
 ·rfl
theorem DS.putD_Hv (g:Ge G) (s:DS G) (d:Option Nat) (v:TV G):(s.putD d v).Hv g=s.Hv g:=by cases d with | none=>rfl | some d=>exact DS.put_Hv g s d v
theorem DS.putD_FR (g:Ge G) (s:DS G) (d:Option Nat) (v:TV G):(s.putD d v).FR g=s.FR g:=by cases d with | none=>rfl | some d=>exact DS.put_FR g s d v
theorem DS.putD_tm (g:Ge G) (s:DS G) (d:Option Nat) (v:TV G):(s.putD d v).tm g=As.putD (s.tm g) d (v.av g s.ln):=by cases d with | none=>rfl | some d=>exact DS.put_tm g s d v
mutual
def ofAV:AV→TV G
 | .int k n=> .int k n
 | .bool b=> .bool b
 | .str s=> .str s
 | .agg l=> .agg (ofAVs l)
 | .fn f l=> .fn f (ofAVs l)
 | .pro l=> .pro (ofAVs l)
 | .tup l=> .tup (ofAVs l)
 | v=> .raw v
def ofAVs:List AV→List (TV G)
 | []=>[]
 | x::xs=>ofAV x::ofAVs xs
end
mutual
theorem ofAV_av (g:Ge G) (ln:Nat→Nat):∀ v:AV,(ofAV v:TV G).av g ln=v
 | .int k n=>rfl
 | .bool b=>rfl
 | .str s=>rfl
 | .agg l=>by rw [ofAV,TV.av,ofAVs_av g ln l]
 | .fn f l=>by rw [ofAV,TV.av,ofAVs_av g ln l]
 | .pro l=>by rw [ofAV,TV.av,ofAVs_av g ln l]
 | .tup l=>by rw [ofAV,TV.av,ofAVs_av g ln l]
 | .any | .nilp | .nils | .nilf | .nili | .nilm | .yld _ | .mp _ | .itr _ | .ro _ | .own .. | .pown .. | .bnd .. | .arr ..=>rfl
theorem ofAVs_av (g:Ge G) (ln:Nat→Nat):∀ l:List AV,TV.avs g ln (ofAVs l:List (TV G))=l
 | []=>rfl
 | x::l=>by rw [ofAVs,TV.avs,ofAV_av g ln x,ofAVs_av g ln l]
end
def DS.rx (gl:Nat→List AV) (s:DS G):RX→TV G
 | .t n=>s.get n
 | .c v=>ofAV v
 | .g n=> .pro (ofAVs (gl n))
theorem DS.rx_av (g:Ge G) (gl:Nat→List AV) (s:DS G):∀ x:RX,evT gl (s.tm g) x=(s.rx gl x).av g s.ln
 | .t n=>DS.get_av g s n
 | .c v=>(ofAV_av g s.ln v).symm
 | .g n=>by show AV.pro _=AV.pro _;rw [ofAVs_av]
theorem DS.rxs_av (g:Ge G) (gl:Nat→List AV) (s:DS G) (l:List RX):l.map (evT gl (s.tm g))=TV.avs g s.ln (l.map (s.rx gl)):=by
 rw [avs_map,List.map_map];exact List.map_congr_left fun x _=>DS.rx_av g gl s x
mutual
def TV.stale (id n:Nat):TV G→TV G
 | .rol es=> .rol (TV.staless id n es)
 | .agg l=> .agg (TV.stales id n l)
 | .tup l=> .tup (TV.stales id n l)
 | .pro l=> .pro (TV.stales id n l)
 | .fn f l=> .fn f (TV.stales id n l)
 | .own j=>if j=id then .raw (.own j n 0 n) else .own j
 | .pe j i o=>if j=id then .raw (.pown j n i.toNat o) else .pe j i o
 | v=>v
def TV.stales (id n:Nat):List (TV G)→List (TV G)
 | []=>[]
 | x::xs=>x.stale id n::TV.stales id n xs
def TV.staless (id n:Nat):List (List (TV G))→List (List (TV G))
 | []=>[]
 | x::xs=>TV.stales id n x::TV.staless id n xs
end
mutual
theorem stale_av {g:Ge G} {ln ln':Nat→Nat} {id:Nat} (h:∀ j,j≠id→ln' j=ln j):∀ v:TV G,(v.stale id (ln id)).av g ln'=v.av g ln
 | .int _ _ | .bool _ | .str _ | .lst _ _ | .olst _ _ | .po _ _ | .pa .. | .sa .. | .arr .. | .optr .. | .raw _=>rfl
 | .rol es=>by rw [TV.stale,TV.av,TV.av,staless_av h es]
 | .agg l=>by rw [TV.stale,TV.av,TV.av,stales_av h l]
 | .tup l=>by rw [TV.stale,TV.av,TV.av,stales_av h l]
 | .pro l=>by rw [TV.stale,TV.av,TV.av,stales_av h l]
 | .fn f l=>by rw [TV.stale,TV.av,TV.av,stales_av h l]
 | .own j=>by
  rw [TV.stale]
  split
  ·rename_i e;subst e;rfl
  ·rename_i e;rw [TV.av,TV.av,h j e]
 | .pe j i o=>by
  rw [TV.stale]
  split
  ·rename_i e;subst e;rfl
  ·rename_i e;rw [TV.av,TV.av,h j e]
theorem stales_av {g:Ge G} {ln ln':Nat→Nat} {id:Nat} (h:∀ j,j≠id→ln' j=ln j):∀ l:List (TV G),TV.avs g ln' (TV.stales id (ln id) l)=TV.avs g ln l
 | []=>rfl
 | x::l=>by rw [TV.stales,TV.avs,TV.avs,stale_av h x,stales_av h l]
theorem staless_av {g:Ge G} {ln ln':Nat→Nat} {id:Nat} (h:∀ j,j≠id→ln' j=ln j):∀ l:List (List (TV G)),TV.avss g ln' (TV.staless id (ln id) l)=TV.avss g ln l
 | []=>rfl
 | x::l=>by rw [TV.staless,TV.avss,TV.avss,stales_av h x,staless_av h l]
end
def staleS (id n:Nat) (l:List (Nat×TV G)):List (Nat×TV G):=l.map fun p=>(p.1,p.2.stale id n)
def TO.stale (id n:Nat):TO G→TO G
 | .box l=> .box (TV.stales id n l)
 | .raws fl sz es=> .raws fl sz (TV.staless id n es)
 | .mix fl t l es=> .mix fl t l (TV.staless id n es)
 | o=>o
def DS.stale (s:DS G) (id:Nat):DS G:=
 let n:=s.ln id
 ⟨s.sz,staleS id n s.sl,s.H.map (TO.stale id n),s.fr.map fun f=>(f.1,staleS id n f.2.1,f.2.2)⟩
theorem stales_len (id n:Nat):∀ l:List (TV G),(TV.stales id n l).length=l.length
 | []=>rfl
 | x::l=>by rw [TV.stales,List.length_cons,stales_len id n l];rfl
theorem staless_len (id n:Nat):∀ l:List (List (TV G)),(TV.staless id n l).length=l.length
 | []=>rfl
 | x::l=>by rw [TV.staless,List.length_cons,staless_len id n l];rfl
theorem staleS_av {g:Ge G} {ln ln':Nat→Nat} {id:Nat} (h:∀ j,j≠id→ln' j=ln j) (l:List (Nat×TV G)):avL g ln' (staleS id (ln id) l)=avL g ln l:=by
 unfold avL staleS
 rw [List.map_map]
 exact List.map_congr_left fun p _=>by show (p.1,_)=(p.1,_);rw [stale_av h]
theorem TO.stale_av {g:Ge G} {ln ln':Nat→Nat} {F:List (T×C3)} {id:Nat} (h:∀ j,j≠id→ln' j=ln j) (o:TO G):(o.stale id (ln id)).av g ln' F=o.av g ln F:=by
 cases o with
 | box l=>show Obj.live _ _ _=Obj.live _ _ _;rw [stales_len,stales_av h]
 | raws fl sz es=>show Obj.live _ _ _=Obj.live _ _ _;rw [staless_av h]
 | mix fl t l es=>show Obj.live _ _ _=Obj.live _ _ _;rw [staless_av h]
 | _=>rfl
theorem TO.stale_len (id n:Nat) (o:TO G):(o.stale id n).len=o.len:=by
 cases o with
 | raws fl sz es=>exact staless_len id n es
 | mix fl t l es=>show l.length+_=l.length+_;rw [staless_len]
 | _=>rfl
def DS.setO (s:DS G) (id:Nat) (o:TO G):DS G:=
 let n:=s.ln id
 ⟨s.sz,staleS id n s.sl,(s.H.map (TO.stale id n)).set id o,s.fr.map fun f=>(f.1,staleS id n f.2.1,f.2.2)⟩
theorem setO_ln (s:DS G) (id:Nat) (o:TO G):∀ j,j≠id→(s.setO id o).ln j=s.ln j:=by
 intro j hj
 unfold DS.ln lnH DS.setO
 dsimp only
 rw [List.getElem?_set_ne (Ne.symm hj),List.getElem?_map]
 cases s.H[j]? with
 | none=>rfl
 | some o=>exact TO.stale_len _ _ o
theorem setO_FR (g:Ge G) (s:DS G) (id:Nat) (o:TO G):(s.setO id o).FR g=s.FR g:=by
 unfold DS.FR
 show (s.fr.map _).map _=_
 rw [List.map_map]
 refine List.map_congr_left fun f _=>?_
 show ((⟨f.1,_⟩:T),f.2.2)=(⟨f.1,_⟩,f.2.2)
 rw [staleS_av (setO_ln s id o)]
theorem setO_T (g:Ge G) (s:DS G) (id:Nat) (o:TO G):(s.setO id o).tm g=s.tm g:=by
 show (⟨s.sz,_⟩:T)=⟨s.sz,_⟩
 rw [show (s.setO id o).sl=staleS id (s.ln id) s.sl from rfl,staleS_av (setO_ln s id o)]
theorem setO_Hv (g:Ge G) (s:DS G) (id:Nat) (o:TO G):(s.setO id o).Hv g=(s.Hv g).set id (o.av g (s.setO id o).ln (s.FR g)):=by
 unfold DS.Hv
 rw [setO_FR]
 show ((s.H.map _).set id o).map _=_
 rw [List.map_set,List.map_map]
 congr 1
 exact List.map_congr_left fun o' _=>TO.stale_av (setO_ln s id o) o'
def DS.setN (s:DS G) (id:Nat) (o:TO G):DS G:=⟨s.sz,s.sl,s.H.set id o,s.fr⟩
theorem setN_ln {s:DS G} {id:Nat} {o:TO G} (h:o.len=s.ln id):(s.setN id o).ln=s.ln:=by
 funext j
 unfold DS.ln lnH DS.setN
 by_cases e:j=id
 ·subst e
  dsimp only
  unfold DS.ln lnH at h
  by_cases hl:j < s.H.length
  ·rw [List.getElem?_set_self hl]
   exact h
  ·rw [List.set_eq_of_length_le (by omega)]
 ·rw [List.getElem?_set_ne (Ne.symm e)]
theorem setN_FR {g:Ge G} {s:DS G} {id:Nat} {o:TO G} (h:o.len=s.ln id):(s.setN id o).FR g=s.FR g:=by
 unfold DS.FR;rw [setN_ln h];rfl
theorem setN_T {g:Ge G} {s:DS G} {id:Nat} {o:TO G} (h:o.len=s.ln id):(s.setN id o).tm g=s.tm g:=by
 unfold DS.tm;rw [setN_ln h];rfl
theorem setN_Hv {g:Ge G} {s:DS G} {id:Nat} {o:TO G} (h:o.len=s.ln id):(s.setN id o).Hv g=(s.Hv g).set id (o.av g s.ln (s.FR g)):=by
 unfold DS.Hv
 rw [setN_FR h,setN_ln h]
 show (s.H.set id o).map _=_
 rw [List.map_set]
mutual
def TV.noref (id:Nat):TV G→Bool
 | .rol es=>TV.norefss id es
 | .agg l=>TV.norefs id l
 | .tup l=>TV.norefs id l
 | .pro l=>TV.norefs id l
 | .fn _ l=>TV.norefs id l
 | .own j=> !Nat.beq j id
 | .pe j _ _=> !Nat.beq j id
 | _=>true
def TV.norefs (id:Nat):List (TV G)→Bool
 | []=>true
 | x::xs=>x.noref id&&TV.norefs id xs
def TV.norefss (id:Nat):List (List (TV G))→Bool
 | []=>true
 | x::xs=>TV.norefs id x&&TV.norefss id xs
end
mutual
theorem noref_av {g:Ge G} {ln ln':Nat→Nat} {id:Nat} (h:∀ j,j≠id→ln' j=ln j):∀ v:TV G,v.noref id=true→v.av g ln'=v.av g ln
 | .int _ _,_ | .bool _,_ | .str _,_ | .lst _ _,_ | .olst _ _,_ | .po _ _,_ | .pa ..,_ | .sa ..,_ | .arr ..,_ | .optr ..,_ | .raw _,_=>rfl
 | .rol es,e=>by rw [TV.av,TV.av,norefss_av h es e]
 | .agg l,e=>by rw [TV.av,TV.av,norefs_av h l e]
 | .tup l,e=>by rw [TV.av,TV.av,norefs_av h l e]
 | .pro l,e=>by rw [TV.av,TV.av,norefs_av h l e]
 | .fn f l,e=>by rw [TV.av,TV.av,norefs_av h l e]
 | .own j,e=>by
  have hj:j≠id:=by
   rintro rfl;simp [TV.noref] at e
  rw [TV.av,TV.av,h j hj]
 | .pe j i o,e=>by
  have hj:j≠id:=by
   rintro rfl;simp [TV.noref] at e
  rw [TV.av,TV.av,h j hj]
theorem norefs_av {g:Ge G} {ln ln':Nat→Nat} {id:Nat} (h:∀ j,j≠id→ln' j=ln j):∀ l:List (TV G),TV.norefs id l=true→TV.avs g ln' l=TV.avs g ln l
 | [],_=>rfl
 | x::l,e=>by
  simp only [TV.norefs,Bool.and_eq_true] at e
  rw [TV.avs,TV.avs,noref_av h x e.1,norefs_av h l e.2]
theorem norefss_av {g:Ge G} {ln ln':Nat→Nat} {id:Nat} (h:∀ j,j≠id→ln' j=ln j):∀ l:List (List (TV G)),TV.norefss id l=true→TV.avss g ln' l=TV.avss g ln l
 | [],_=>rfl
 | x::l,e=>by
  simp only [TV.norefss,Bool.and_eq_true] at e
  rw [TV.avss,TV.avss,norefs_av h x e.1,norefss_av h l e.2]
end
def norefS (id:Nat):List (Nat×TV G)→Bool
 | []=>true
 | p::r=>p.2.noref id&&norefS id r
def norefO (id:Nat):List (TO G)→Bool
 | []=>true
 | .box l::r=>TV.norefs id l&&norefO id r
 | .raws _ _ es::r=>TV.norefss id es&&norefO id r
 | .mix _ _ _ es::r=>TV.norefss id es&&norefO id r
 | _::r=>norefO id r
def norefF (id:Nat):List (Nat×List (Nat×TV G)×C3)→Bool
 | []=>true
 | f::r=>norefS id f.2.1&&norefF id r
theorem norefS_av {g:Ge G} {ln ln':Nat→Nat} {id:Nat} (h:∀ j,j≠id→ln' j=ln j):∀ l:List (Nat×TV G),norefS id l=true→avL g ln' l=avL g ln l
 | [],_=>rfl
 | p::l,e=>by
  simp only [norefS,Bool.and_eq_true] at e
  show (p.1,_)::avL g ln' l=(p.1,_)::avL g ln l
  rw [noref_av h _ e.1,norefS_av h l e.2]
theorem norefO_av {g:Ge G} {ln ln':Nat→Nat} {F:List (T×C3)} {id:Nat} (h:∀ j,j≠id→ln' j=ln j):∀ l:List (TO G),norefO id l=true→l.map (TO.av g ln' F)=l.map (TO.av g ln F)
 | [],_=>rfl
 | .box l::r,e=>by
  simp only [norefO,Bool.and_eq_true] at e
  show Obj.live _ _ _::r.map _=Obj.live _ _ _::r.map _
  rw [norefs_av h _ e.1,norefO_av h r e.2]
 | .raws _ _ es::r,e=>by
  simp only [norefO,Bool.and_eq_true] at e
  show Obj.live _ _ _::r.map _=Obj.live _ _ _::r.map _
  rw [norefss_av h _ e.1,norefO_av h r e.2]
 | .mix _ _ _ es::r,e=>by
  simp only [norefO,Bool.and_eq_true] at e
  show Obj.live _ _ _::r.map _=Obj.live _ _ _::r.map _
  rw [norefss_av h _ e.1,norefO_av h r e.2]
 | .lst ..::r,e | .arr ..::r,e | .dead::r,e | .rsv::r,e | .lp ..::r,e=>by
  show _::r.map _=_::r.map _
  rw [norefO_av h r e];rfl
theorem norefF_av {g:Ge G} {ln ln':Nat→Nat} {id:Nat} (h:∀ j,j≠id→ln' j=ln j):∀ l:List (Nat×List (Nat×TV G)×C3),norefF id l=true→(l.map fun f=>((⟨f.1,avL g ln' f.2.1⟩:T),f.2.2))=l.map fun f=>(⟨f.1,avL g ln f.2.1⟩,f.2.2)
 | [],_=>rfl
 | f::r,e=>by
  simp only [norefF,Bool.and_eq_true] at e
  show ((⟨f.1,_⟩:T),f.2.2)::r.map _=(⟨f.1,_⟩,f.2.2)::r.map _
  rw [norefS_av h _ e.1,norefF_av h r e.2]
def DS.newO (s:DS G) (pl:Nat) (o:TO G):DS G:=⟨s.sz,s.sl,if pl < s.H.length then s.H.set pl o else s.H++[o],s.fr⟩
def DS.fits (s:DS G) (pl:Nat) (o:TO G):Bool:=Nat.ble pl s.H.length&&match o with
 | .lst ..=>norefS pl s.sl&&(norefO pl s.H&&norefF pl s.fr)
 | .raws _ _ es=>norefS pl s.sl&&(norefO pl s.H&&norefF pl s.fr)&&TV.norefss pl es
 | .mix ..=>false
 | _=>lnH s.H pl==0
theorem newO_ln {s:DS G} {pl:Nat} (hp:pl≤s.H.length) (o:TO G):∀ j,j≠pl→(s.newO pl o).ln j=s.ln j:=by
 intro j hj
 unfold DS.ln lnH DS.newO
 dsimp only
 by_cases hl:pl < s.H.length
 ·rw [if_pos hl,List.getElem?_set_ne (Ne.symm hj)]
 ·rw [if_neg hl]
  by_cases h:j < s.H.length
  ·rw [List.getElem?_append_left h]
  ·have e1:(s.H++[o])[j]?=none:=List.getElem?_eq_none (by simp;omega)
   have e2:s.H[j]?=none:=List.getElem?_eq_none (by omega)
   rw [e1,e2]
theorem newO_ln0 {s:DS G} {pl:Nat} (hp:pl≤s.H.length) {o:TO G} (h:o.len=0) (h0:lnH s.H pl=0):(s.newO pl o).ln=s.ln:=by
 funext j
 by_cases hj:j=pl
 ·subst hj
  show lnH _ j=lnH s.H j
  rw [h0]
  unfold lnH DS.newO
  dsimp only
  by_cases hl:j < s.H.length
  ·rw [if_pos hl,List.getElem?_set_self hl];exact h
  ·rw [if_neg hl]
   have:j=s.H.length:=by omega
   subst this
   rw [List.getElem?_append_right (by omega)]
   simp [h]
 ·exact newO_ln hp o j hj
theorem newO_ok {g:Ge G} {s:DS G} {pl:Nat} {o:TO G} (h:s.fits pl o=true):(s.newO pl o).tm g=s.tm g∧(s.newO pl o).FR g=s.FR g∧(s.newO pl o).Hv g=putObj (s.Hv g) pl (o.av g (s.newO pl o).ln (s.FR g)):=by
 unfold DS.fits at h
 rw [Bool.and_eq_true] at h
 have hp:pl≤s.H.length:=Nat.le_of_ble_eq_true h.1
 have k1:=newO_ln hp o
 have k2:(s.newO pl o).ln=s.ln∨(norefS pl s.sl&&(norefO pl s.H&&norefF pl s.fr))=true:=by
  have h2:=h.2
  cases o with
  | lst fl t l=>exact .inr h2
  | raws fl sz es=>exact .inr ((Bool.and_eq_true _ _).mp h2).1
  | mix fl t l es=>cases h2
  | _=>exact .inl (newO_ln0 hp rfl (by simpa using h2))
 have hT:(s.newO pl o).tm g=s.tm g:=by
  show (⟨s.sz,avL g _ s.sl⟩:T)=⟨s.sz,avL g _ s.sl⟩
  rcases k2 with e | e
  ·rw [e]
  ·simp only [Bool.and_eq_true] at e
   rw [norefS_av k1 _ e.1]
 have hF:(s.newO pl o).FR g=s.FR g:=by
  unfold DS.FR
  rcases k2 with e | e
  ·rw [e];rfl
  ·simp only [Bool.and_eq_true] at e
   exact norefF_av k1 _ e.2.2
 refine ⟨hT,hF,?_⟩
 have hH:s.H.map (TO.av g (s.newO pl o).ln (s.FR g))=s.H.map (TO.av g s.ln (s.FR g)):=by
  rcases k2 with e | e
  ·rw [e]
  ·simp only [Bool.and_eq_true] at e
   exact norefO_av k1 _ e.2.1
 unfold DS.Hv
 rw [hF]
 show (if pl < s.H.length then s.H.set pl o else s.H++[o]).map _=putObj _ _ _
 unfold putObj
 rw [List.length_map]
 split
 ·rw [List.map_set,hH]
 ·rw [List.map_append,hH];rfl
theorem Hv_len (g:Ge G) (s:DS G):(s.Hv g).length=s.H.length:=by simp [DS.Hv]
theorem Hv_get {g:Ge G} {s:DS G} {id:Nat} {o:TO G} (h:s.H[id]?=some o):(s.Hv g)[id]?=some (o.av g s.ln (s.FR g)):=by
 unfold DS.Hv;rw [List.getElem?_map,h];rfl
end
end Dnm
