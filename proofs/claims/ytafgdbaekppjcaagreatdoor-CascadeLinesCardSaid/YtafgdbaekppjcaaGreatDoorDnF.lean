/- Typed states: shapes of states, and their plain values. No condition. -/
import Derived.Test.YtafgdbaekppjcaaGreatDoorDnD
set_option linter.unusedSectionVars false
set_option linter.unusedVariables false
set_option linter.unusedSimpArgs false
namespace Dnm
open Go hiding Obj mark
open Go.Pl Go.Am Go.Am.As
set_option linter.unusedVariables false
inductive Sh where
 | lf (t:Ty)
 | own (id:Nat)
 | po (id o:Nat)
 | c (v:AV)
 | agg (l:List Sh)
 | tup (l:List Sh)
 | pro (l:List Sh)
 | fn (f:Nat) (l:List Sh)
 | pe (id o:Nat)
 deriving Inhabited
inductive Oh where
 | dead
 | rsv
 | lst (fl:Fl) (t:Ty)
 | box (l:List Sh)
 | arr (n:Nat) (t:Ty)
 | lp (s:Ls) (fi:Nat)
 | rws (fl:Fl) (sz:Nat) (es:List (List AV))
 deriving Inhabited
structure Tm where
 ts:List Ty
 sl:List (Nat×Sh)
 H:List Oh
 deriving Inhabited
section
variable {G:Nat→Type} {R:Type}
def DL (G:Nat→Type):List Ty→Type
 | []=>Unit
 | [t]=>t.D G
 | t::u::r=>t.D G×DL G (u::r)
def mkDL (g:Ge G):(ts:List Ty)→List (TV G)→Option (DL G ts)
 | [],l=>(match l with | []=>some () | _=>none)
 | [t],l=>(match l with | [v]=>asT g t v | _=>none)
 | t::u::r,l=>(match l with
  | v::l=>(match asT g t v with
   | some x=>(match mkDL g (u::r) l with | some y=>some (x,y) | none=>none)
   | none=>none)
  | []=>none)
def viewDL (g:Ge G):(ts:List Ty)→DL G ts→List (TV G)
 | [],_=>[]
 | [t],x=>[view g t x]
 | t::u::r,x=>view g t x.1::viewDL g (u::r) x.2
def vaDL (g:Ge G):(ts:List Ty)→DL G ts→List AV
 | [],_=>[]
 | [t],x=>[va g t x]
 | t::u::r,x=>va g t x.1::vaDL g (u::r) x.2
theorem viewDL_av {g:Ge G} (hg:g.Ok) (ln:Nat→Nat):∀ (ts:List Ty) (x:DL G ts),TV.avs g ln (viewDL g ts x)=vaDL g ts x
 | [],_=>rfl
 | [t],x=>congrArg (fun a=>[a]) (view_av hg ln t x)
 | t::u::r,x=>by
  show _::_=_::_
  exact congr (congrArg List.cons (view_av hg ln t x.1)) (viewDL_av hg ln (u::r) x.2)
theorem mkDL_ok {g:Ge G} (hg:g.Ok) (ln:Nat→Nat):∀ (ts:List Ty) (l:List (TV G)) (x:DL G ts),mkDL g ts l=some x→TV.avs g ln l=vaDL g ts x
 | [],[],x,h=>rfl
 | [],_::_,x,h=>nomatch h
 | [t],[v],x,h=>congrArg (fun a=>[a]) (asT_ok hg ln t v x h)
 | [t],[],x,h=>nomatch h
 | [t],_::_::_,x,h=>nomatch h
 | t::u::r,[],x,h=>nomatch h
 | t::u::r,v::l,x,h=>by
  have h':(match asT g t v with
   | some x=>(match mkDL g (u::r) l with | some y=>some (x,y) | none=>none)
   | none=>none)=some x:=h
  split at h'
  case h_2=>cases h'
  rename_i a ha
  split at h'
  case h_2=>cases h'
  rename_i b hb
  injection h' with h';subst h'
  show _::_=_::_
  exact congr (congrArg List.cons (asT_ok hg ln t v a ha)) (mkDL_ok hg ln (u::r) l b hb)
def ownC (i:Nat):TV G→Option (List (TV G))
 | .own j=>if Nat.beq i j then some [] else none
 | _=>none
def poC (i o:Nat):TV G→Option (List (TV G))
 | .po j p=>if Nat.beq i j&&Nat.beq o p then some [] else none
 | _=>none
def cC (a:AV):TV G→Option (List (TV G))
 | .raw b=>if AV.same a b then some [] else none
 | _=>none
def aggC (f:List (TV G)→Option (List (TV G))):TV G→Option (List (TV G))
 | .agg vs=>f vs
 | _=>none
def tupC (f:List (TV G)→Option (List (TV G))):TV G→Option (List (TV G))
 | .tup vs=>f vs
 | _=>none
def proC (f:List (TV G)→Option (List (TV G))):TV G→Option (List (TV G))
 | .pro vs=>f vs
 | _=>none
def fnC (n:Nat) (f:List (TV G)→Option (List (TV G))):TV G→Option (List (TV G))
 | .fn m vs=>if Nat.beq n m then f vs else none
 | _=>none
theorem ownC_ok {i:Nat} {v:TV G} {l:List (TV G)} (h:ownC i v=some l):v= .own i∧l=[]:=by
 cases v with
 | own j=>
  unfold ownC at h
  dsimp only at h
  split at h
  ·rename_i hc;injection h with h;exact ⟨by rw [Nat.eq_of_beq_eq_true hc],h.symm⟩
  ·cases h
 | _=>cases h
theorem poC_ok {i o:Nat} {v:TV G} {l:List (TV G)} (h:poC i o v=some l):v= .po i o∧l=[]:=by
 cases v with
 | po j p=>
  unfold poC at h
  dsimp only at h
  split at h
  ·rename_i hc;rw [Bool.and_eq_true] at hc;injection h with h;exact ⟨by rw [Nat.eq_of_beq_eq_true hc.1,Nat.eq_of_beq_eq_true hc.2],h.symm⟩
  ·cases h
 | _=>cases h
theorem cC_ok {a:AV} {v:TV G} {l:List (TV G)} (h:cC a v=some l):v= .raw a∧l=[]:=by
 cases v with
 | raw b=>
  unfold cC at h
  dsimp only at h
  split at h
  ·rename_i hc;injection h with h;exact ⟨by rw [AV.same_eq hc],h.symm⟩
  ·cases h
 | _=>cases h
theorem aggC_ok {f:List (TV G)→Option (List (TV G))} {v:TV G} {l:List (TV G)} (h:aggC f v=some l):∃ vs,v= .agg vs∧f vs=some l:=by
 cases v with
 | agg vs=>exact ⟨vs,rfl,h⟩
 | _=>cases h
theorem tupC_ok {f:List (TV G)→Option (List (TV G))} {v:TV G} {l:List (TV G)} (h:tupC f v=some l):∃ vs,v= .tup vs∧f vs=some l:=by
 cases v with
 | tup vs=>exact ⟨vs,rfl,h⟩
 | _=>cases h
theorem proC_ok {f:List (TV G)→Option (List (TV G))} {v:TV G} {l:List (TV G)} (h:proC f v=some l):∃ vs,v= .pro vs∧f vs=some l:=by
 cases v with
 | pro vs=>exact ⟨vs,rfl,h⟩
 | _=>cases h
theorem fnC_ok {n:Nat} {f:List (TV G)→Option (List (TV G))} {v:TV G} {l:List (TV G)} (h:fnC n f v=some l):∃ vs,v= .fn n vs∧f vs=some l:=by
 cases v with
 | fn m vs=>
  unfold fnC at h
  dsimp only at h
  split at h
  ·rename_i hc;exact ⟨vs,by rw [Nat.eq_of_beq_eq_true hc],h⟩
  ·cases h
 | _=>cases h
def peC (i o:Nat):TV G→Option (List (TV G))
 | .pe j n p=>if Nat.beq i j&&Nat.beq o p then some [.int .i64 n] else none
 | _=>none
def avI:TV G→Option Int
 | .int _ n=>some n
 | .raw v=>(match v with | .int _ n=>some n | _=>none)
 | _=>none
def peR (i o:Nat) (v:TV G):TV G:=match avI v with
 | some n=> .pe i n o
 | none=> .raw .any
theorem peC_ok {i o:Nat} {v:TV G} {l:List (TV G)} (h:peC i o v=some l):∃ n,v= .pe i n o∧l=[.int .i64 n]:=by
 cases v with
 | pe j n p=>
  unfold peC at h
  dsimp only at h
  split at h
  ·rename_i hc;rw [Bool.and_eq_true] at hc;injection h with h;exact ⟨n,by rw [Nat.eq_of_beq_eq_true hc.1,Nat.eq_of_beq_eq_true hc.2],h.symm⟩
  ·cases h
 | _=>cases h
theorem avI_ok {g:Ge G} {ln:Nat→Nat} {v:TV G} {n:Int} (h:v.av g ln= .int .i64 n):avI v=some n:=by
 cases v with
 | int k m=>injection h with _ h;rw [h];rfl
 | raw a=>
  have h:a= .int .i64 n:=h
  subst h;rfl
 | olst t o=>cases o<;>cases h
 | optr t o=>cases o<;>cases h
 | sa i lo len n hh=>
  have h:(if len=0 then AV.ro [] else .arr i 1 0 lo 1 len)=_:=h
  split at h<;>cases h
 | _=>cases h
def multi:Sh→Option Nat
 | .lf (.st i)=>some i
 | _=>none
mutual
def Sh.coll (g:Ge G):Sh→TV G→Option (List (TV G))
 | .lf _,v=>some [v]
 | .own i,v=>ownC i v
 | .po i o,v=>poC i o v
 | .c a,v=>cC a v
 | .agg l,v=>aggC (Sh.colls g l) v
 | .tup l,v=>tupC (Sh.colls g l) v
 | .pro l,v=>proC (Sh.colls g l) v
 | .fn f l,v=>fnC f (Sh.colls g l) v
 | .pe i o,v=>peC i o v
def Sh.colls (g:Ge G):List Sh→List (TV G)→Option (List (TV G))
 | [],vs=>(match vs with | []=>some [] | _::_=>none)
 | s::ss,vs=>(match multi s with
  | some i=>if Nat.ble (g.n i) vs.length then (match Sh.colls g ss (vs.drop (g.n i)) with | some r=>some (.agg (vs.take (g.n i))::r) | none=>none) else none
  | none=>(match vs with
   | v::vs=>(match Sh.coll g s v with
    | some a=>(match Sh.colls g ss vs with | some b=>some (a++b) | none=>none)
    | none=>none)
   | []=>none))
end
def hdT:List (TV G)→TV G×List (TV G)
 | v::r=>(v,r)
 | []=>(.raw .any,[])
mutual
def Sh.reb (g:Ge G):Sh→List (TV G)→TV G×List (TV G)
 | .lf _,l=>hdT l
 | .own i,l=>(.own i,l)
 | .po i o,l=>(.po i o,l)
 | .c a,l=>(.raw a,l)
 | .agg ss,l=>(.agg (Sh.rebs g ss l).1,(Sh.rebs g ss l).2)
 | .tup ss,l=>(.tup (Sh.rebs g ss l).1,(Sh.rebs g ss l).2)
 | .pro ss,l=>(.pro (Sh.rebs g ss l).1,(Sh.rebs g ss l).2)
 | .fn f ss,l=>(.fn f (Sh.rebs g ss l).1,(Sh.rebs g ss l).2)
 | .pe i o,l=>(peR i o (hdT l).1,(hdT l).2)
def Sh.rebs (g:Ge G):List Sh→List (TV G)→List (TV G)×List (TV G)
 | [],l=>([],l)
 | s::ss,l=>(match multi s with
  | some _=>((hdT l).1.cells g++(Sh.rebs g ss (hdT l).2).1,(Sh.rebs g ss (hdT l).2).2)
  | none=>((Sh.reb g s l).1::(Sh.rebs g ss (Sh.reb g s l).2).1,(Sh.rebs g ss (Sh.reb g s l).2).2))
end
theorem avs_app (g:Ge G) (ln:Nat→Nat) (a b:List (TV G)):TV.avs g ln (a++b)=TV.avs g ln a++TV.avs g ln b:=by
 rw [avs_map,avs_map,avs_map,List.map_append]
theorem avs_split {g:Ge G} {ln ln':Nat→Nat} {l a b:List (TV G)} (h:TV.avs g ln l=TV.avs g ln' (a++b)):∃ a' b',l=a'++b'∧TV.avs g ln a'=TV.avs g ln' a∧TV.avs g ln b'=TV.avs g ln' b:=by
 rw [avs_app,avs_map] at h
 obtain ⟨p,q,e1,e2,e3⟩:=List.map_eq_append_iff.1 h
 exact ⟨p,q,e1,by rw [avs_map];exact e2,by rw [avs_map];exact e3⟩
theorem avs_one {g:Ge G} {ln ln':Nat→Nat} {l:List (TV G)} {v:TV G} (h:TV.avs g ln l=TV.avs g ln' [v]):∃ w,l=[w]∧w.av g ln=v.av g ln':=by
 match l with
 | []=>cases h
 | [w]=>injection h with h _;exact ⟨w,rfl,h⟩
 | _::_::_=>injection h with _ h;cases h
theorem avs_nil {g:Ge G} {ln ln':Nat→Nat} {l:List (TV G)} (h:TV.avs g ln l=TV.avs g ln' []):l=[]:=by
 cases l with
 | nil=>rfl
 | cons x l=>cases h
mutual
theorem coll_ok {g:Ge G} {ln:Nat→Nat}:∀ (s:Sh) (v:TV G) (l:List (TV G)),Sh.coll g s v=some l→∀ l' r,TV.avs g ln l'=TV.avs g ln l→∃ v',Sh.reb g s (l'++r)=(v',r)∧v'.av g ln=v.av g ln
 | .lf t,v,l,h,l',r,e=>by
  injection h with h;subst h
  obtain ⟨w,e1,e2⟩:=avs_one e
  subst e1
  exact ⟨w,rfl,e2⟩
 | .own i,v,l,h,l',r,e=>by
  obtain ⟨rfl,rfl⟩:=ownC_ok (l:=l) h
  rw [avs_nil e];exact ⟨_,rfl,rfl⟩
 | .po i o,v,l,h,l',r,e=>by
  obtain ⟨rfl,rfl⟩:=poC_ok (l:=l) h
  rw [avs_nil e];exact ⟨_,rfl,rfl⟩
 | .c a,v,l,h,l',r,e=>by
  obtain ⟨rfl,rfl⟩:=cC_ok (l:=l) h
  rw [avs_nil e];exact ⟨_,rfl,rfl⟩
 | .agg ss,v,l,h,l',r,e=>by
  obtain ⟨vs,e0,h0⟩:=aggC_ok (l:=l) h
  subst e0
  obtain ⟨vs',h1,h2⟩:=colls_ok ss _ l h0 l' r e
  exact ⟨.agg vs',by rw [Sh.reb,h1],by rw [TV.av,TV.av,h2]⟩
 | .tup ss,v,l,h,l',r,e=>by
  obtain ⟨vs,e0,h0⟩:=tupC_ok (l:=l) h
  subst e0
  obtain ⟨vs',h1,h2⟩:=colls_ok ss _ l h0 l' r e
  exact ⟨.tup vs',by rw [Sh.reb,h1],by rw [TV.av,TV.av,h2]⟩
 | .pro ss,v,l,h,l',r,e=>by
  obtain ⟨vs,e0,h0⟩:=proC_ok (l:=l) h
  subst e0
  obtain ⟨vs',h1,h2⟩:=colls_ok ss _ l h0 l' r e
  exact ⟨.pro vs',by rw [Sh.reb,h1],by rw [TV.av,TV.av,h2]⟩
 | .fn f ss,v,l,h,l',r,e=>by
  obtain ⟨vs,e0,h0⟩:=fnC_ok (l:=l) h
  subst e0
  obtain ⟨vs',h1,h2⟩:=colls_ok ss _ l h0 l' r e
  exact ⟨.fn f vs',by rw [Sh.reb,h1],by rw [TV.av,TV.av,h2]⟩
 | .pe i o,v,l,h,l',r,e=>by
  obtain ⟨n,e0,h0⟩:=peC_ok (l:=l) h
  subst e0;subst h0
  obtain ⟨w,e1,e2⟩:=avs_one e
  subst e1
  refine ⟨.pe i n o,?_,rfl⟩
  show (peR i o w,r)=_
  unfold peR
  rw [avI_ok e2]
theorem colls_ok {g:Ge G} {ln:Nat→Nat}:∀ (ss:List Sh) (vs l:List (TV G)),Sh.colls g ss vs=some l→∀ l' r,TV.avs g ln l'=TV.avs g ln l→∃ vs',Sh.rebs g ss (l'++r)=(vs',r)∧TV.avs g ln vs'=TV.avs g ln vs
 | [],vs,l,h,l',r,e=>by
  cases vs with
  | cons v vs=>cases h
  | nil=>
   injection h with h;subst h
   rw [avs_nil e]
   exact ⟨[],rfl,rfl⟩
 | s::ss,vs,l,h,l',r,e=>by
  rw [Sh.colls.eq_def] at h
  rw [Sh.rebs.eq_def]
  dsimp only at h ⊢
  split at h
  ·rename_i i hm
   split at h
   case isFalse=>cases h
   rename_i hc
   split at h
   case h_2=>cases h
   rename_i b hb
   injection h with h;subst h
   rw [←List.singleton_append] at e
   obtain ⟨p,q,e0,e1,e2⟩:=avs_split e
   subst e0
   obtain ⟨w,e3,e4⟩:=avs_one e1
   subst e3
   obtain ⟨vs',h1,h2⟩:=colls_ok ss _ b hb q r e2
   refine ⟨w.cells g++vs',?_,?_⟩
   ·show (_,_)=_
    rw [show (hdT (([w]++q)++r))=(w,q++r) from rfl]
    dsimp only
    rw [h1]
   ·rw [avs_app,h2,←av_cells,e4]
    show TV.avs g ln (vs.take (g.n i))++_=_
    rw [←avs_app,List.take_append_drop]
  ·rename_i hm
   split at h
   case h_2=>cases h
   rename_i v vs
   split at h
   case h_2=>cases h
   rename_i a ha
   split at h
   case h_2=>cases h
   rename_i b hb
   injection h with h;subst h
   obtain ⟨p,q,e0,e1,e2⟩:=avs_split e
   subst e0
   obtain ⟨v',h1,h2⟩:=coll_ok s v a ha p (q++r) e1
   obtain ⟨vs',h3,h4⟩:=colls_ok ss vs b hb q r e2
   refine ⟨v'::vs',?_,by rw [TV.avs,TV.avs,h2,h4]⟩
   rw [List.append_assoc,h1]
   dsimp only
   rw [h3]
end
def cCs:List AV→List (TV G)→Bool
 | [],vs=>(match vs with | []=>true | _::_=>false)
 | a::as,vs=>(match vs with
  | v::vs=>(match cC a v with | some _=>true | none=>false)&&cCs as vs
  | []=>false)
def cCss:List (List AV)→List (List (TV G))→Bool
 | [],vs=>(match vs with | []=>true | _::_=>false)
 | a::as,vs=>(match vs with
  | v::vs=>cCs a v&&cCss as vs
  | []=>false)
theorem cCs_ok:∀ {as:List AV} {vs:List (TV G)},cCs as vs=true→vs=as.map .raw
 | [],[],_=>rfl
 | [],_::_,h=>by cases h
 | _::_,[],h=>by cases h
 | a::as,v::vs,h=>by
  have h:((match cC a v with | some _=>true | none=>false)&&cCs as vs)=true:=h
  rw [Bool.and_eq_true] at h
  rw [List.map_cons,←cCs_ok h.2]
  cases hc:cC a v with
  | none=>rw [hc] at h;cases h.1
  | some l=>rw [(cC_ok hc).1]
theorem cCss_ok:∀ {as:List (List AV)} {vs:List (List (TV G))},cCss as vs=true→vs=as.map (List.map .raw)
 | [],[],_=>rfl
 | [],_::_,h=>by cases h
 | _::_,[],h=>by cases h
 | a::as,v::vs,h=>by
  have h:(cCs a v&&cCss as vs)=true:=h
  rw [Bool.and_eq_true] at h
  rw [List.map_cons,←cCss_ok h.2,←cCs_ok h.1]
def collO (g:Ge G):Oh→TO G→Option (List (TV G))
 | .dead,o=>(match o with | .dead=>some [] | _=>none)
 | .rsv,o=>(match o with | .rsv=>some [] | _=>none)
 | .lst fl t,o=>(match o with
  | .lst fl' u l=>if fl=fl'∧u=t then some [.lst u l] else none
  | .raws fl' sz es=>if fl=fl'∧sz=t.n g then (match rawsT g t es with | some m=>some [.lst t m] | none=>none) else none
  | _=>none)
 | .box ss,o=>(match o with | .box vs=>Sh.colls g ss vs | _=>none)
 | .arr n t,o=>(match o with | .arr m u a=>if m=n∧u=t then some [.arr m u a] else none | _=>none)
 | .lp s fi,o=>(match o with | .lp s' fi'=>if s=s'∧fi=fi' then some [] else none | _=>none)
 | .rws fl sz es,o=>(match o with | .raws fl' sz' ws=>if fl=fl'∧sz=sz'∧cCss es ws=true then some [] else none | _=>none)
def lstO (fl:Fl):TV G→TO G
 | .lst u m=> .lst fl u m
 | _=> .dead
def arrO:TV G→TO G
 | .arr m u a=> .arr m u a
 | _=> .dead
def rebO (g:Ge G):Oh→List (TV G)→TO G×List (TV G)
 | .dead,l=>(.dead,l)
 | .rsv,l=>(.rsv,l)
 | .lst fl t,l=>(lstO fl (hdT l).1,(hdT l).2)
 | .box ss,l=>(.box (Sh.rebs g ss l).1,(Sh.rebs g ss l).2)
 | .arr n t,l=>(arrO (hdT l).1,(hdT l).2)
 | .lp s fi,l=>(.lp s fi,l)
 | .rws fl sz es,l=>(.raws fl sz (es.map (List.map .raw)),l)
def collH (g:Ge G):List Oh→List (TO G)→Option (List (TV G))
 | [],os=>(match os with | []=>some [] | _::_=>none)
 | h::hs,os=>(match os with
  | o::os=>(match collO g h o with
   | some a=>(match collH g hs os with | some b=>some (a++b) | none=>none)
   | none=>none)
  | []=>none)
def rebH (g:Ge G):List Oh→List (TV G)→List (TO G)×List (TV G)
 | [],l=>([],l)
 | h::hs,l=>((rebO g h l).1::(rebH g hs (rebO g h l).2).1,(rebH g hs (rebO g h l).2).2)
def kindO:Oh→TO G→Bool
 | .lst _ t,o=>(match o with | .lst _ u _=>decide (u=t) | _=>false)
 | .arr n t,o=>(match o with | .arr m u _=>decide (m=n∧u=t) | _=>false)
 | _,_=>true
def kindH:List Oh→List (TO G)→Bool
 | [],_=>true
 | h::hs,os=>(match os with
  | o::os=>kindO h o&&kindH hs os
  | []=>false)
theorem lstO_ok {fl:Fl} {v:TV G} {t:Ty} (h:kindO (.lst fl t) (lstO fl v)=true):∃ m,v= .lst t m:=by
 cases v with
 | lst u m=>
  have h:decide (u=t)=true:=h
  simp only [decide_eq_true_eq] at h
  subst h;exact ⟨m,rfl⟩
 | _=>cases h
theorem arrO_ok {n:Nat} {v:TV G} {t:Ty} (h:kindO (.arr n t) (arrO v)=true):∃ a,v= .arr n t a:=by
 cases v with
 | arr m u a=>
  have h:decide (m=n∧u=t)=true:=h
  simp only [decide_eq_true_eq] at h
  obtain ⟨rfl,rfl⟩:=h;exact ⟨a,rfl⟩
 | _=>cases h
theorem collO_ok {g:Ge G} (hg:g.Ok) {ln:Nat→Nat} {F:List (T×C3)} {h:Oh} {o:TO G} {l:List (TV G)} (hc:collO g h o=some l) {l' r:List (TV G)} (e:TV.avs g ln l'=TV.avs g ln l) (hk:kindO h (rebO g h (l'++r)).1=true):
 (rebO g h (l'++r)).2=r∧(rebO g h (l'++r)).1.av g ln F=o.av g ln F∧(rebO g h (l'++r)).1.len=o.len:=by
 cases h with
 | dead=>
  cases o with
  | dead=>injection hc with hc;subst hc;rw [avs_nil e];exact ⟨rfl,rfl,rfl⟩
  | _=>cases hc
 | rsv=>
  cases o with
  | rsv=>injection hc with hc;subst hc;rw [avs_nil e];exact ⟨rfl,rfl,rfl⟩
  | _=>cases hc
 | lp s fi=>
  cases o with
  | lp s' fi'=>
   unfold collO at hc
   dsimp only at hc
   split at hc
   case isFalse=>cases hc
   rename_i h1;obtain ⟨rfl,rfl⟩:=h1
   injection hc with hc;subst hc;rw [avs_nil e];exact ⟨rfl,rfl,rfl⟩
  | _=>cases hc
 | rws fl sz es=>
  cases o with
  | raws fl' sz' ws=>
   unfold collO at hc
   dsimp only at hc
   split at hc
   case isFalse=>cases hc
   rename_i h1;obtain ⟨rfl,rfl,h3⟩:=h1
   injection hc with hc;subst hc;rw [avs_nil e,cCss_ok h3];exact ⟨rfl,rfl,rfl⟩
  | _=>cases hc
 | box ss=>
  cases o with
  | box vs=>
   obtain ⟨vs',h1,h2⟩:=colls_ok (ln:=ln) ss vs l hc l' r e
   have hl:vs'.length=vs.length:=by have:=congrArg List.length h2;rwa [avs_len,avs_len] at this
   unfold rebO
   dsimp only
   rw [h1]
   refine ⟨rfl,?_,rfl⟩
   show Obj.live _ _ _=Obj.live _ _ _
   rw [h2,hl]
  | _=>cases hc
 | arr n t=>
  cases o with
  | arr m u a=>
   unfold collO at hc
   dsimp only at hc
   split at hc
   case isFalse=>cases hc
   rename_i h1;obtain ⟨rfl,rfl⟩:=h1
   injection hc with hc;subst hc
   obtain ⟨w,e1,e2⟩:=avs_one e
   subst e1
   have hk:kindO (.arr m u) (arrO w)=true:=hk
   obtain ⟨b,rfl⟩:=arrO_ok hk
   refine ⟨rfl,?_,rfl⟩
   injection e2 with e2
   show Obj.live _ _ [_]=Obj.live _ _ [_]
   rw [e2]
  | _=>cases hc
 | lst fl t=>
  have fin:∀ {m:List (t.D G)} {o:TO G},l=[.lst t m]→o.av g ln F= .live fl (t.n g) (m.map (enc g t))→o.len=m.length→(rebO g (.lst fl t) (l'++r)).2=r∧(rebO g (.lst fl t) (l'++r)).1.av g ln F=o.av g ln F∧(rebO g (.lst fl t) (l'++r)).1.len=o.len:=by
   intro m o e0 h1 h2
   subst e0
   obtain ⟨w,e1,e2⟩:=avs_one e
   subst e1
   have hk:kindO (.lst fl t) (lstO fl w)=true:=hk
   obtain ⟨b,rfl⟩:=lstO_ok hk
   injection e2 with e2
   refine ⟨rfl,?_,?_⟩
   ·rw [h1];show Obj.live _ _ _=Obj.live _ _ _;rw [e2]
   ·rw [h2];show b.length=m.length;have:=congrArg List.length e2;simpa using this
  cases o with
  | lst fl' u m=>
   unfold collO at hc
   dsimp only at hc
   split at hc
   case isFalse=>cases hc
   rename_i h1;obtain ⟨rfl,rfl⟩:=h1
   injection hc with hc
   exact fin hc.symm rfl rfl
  | raws fl' sz es=>
   unfold collO at hc
   dsimp only at hc
   split at hc
   case isFalse=>cases hc
   rename_i h1;obtain ⟨rfl,rfl⟩:=h1
   split at hc
   case h_2=>cases hc
   rename_i m hm
   injection hc with hc
   obtain ⟨h2,h3⟩:=rawsT_ok hg ln hm
   exact fin hc.symm (by show Obj.live _ _ _=_;rw [h2]) h3
  | _=>cases hc
theorem collH_ok {g:Ge G} (hg:g.Ok) {ln:Nat→Nat} {F:List (T×C3)}:∀ {hs:List Oh} {os:List (TO G)} {l:List (TV G)},collH g hs os=some l→∀ {l' r:List (TV G)},TV.avs g ln l'=TV.avs g ln l→kindH hs (rebH g hs (l'++r)).1=true→
 (rebH g hs (l'++r)).1.map (TO.av g ln F)=os.map (TO.av g ln F)∧(rebH g hs (l'++r)).1.map TO.len=os.map TO.len
 | [],[],l,h,l',r,e,hk=>⟨rfl,rfl⟩
 | [],_::_,l,h,l',r,e,hk=>by cases h
 | _::_,[],l,h,l',r,e,hk=>by cases h
 | h::hs,o::os,l,hc,l',r,e,hk=>by
  have hc':(match collO g h o with
   | some a=>(match collH g hs os with | some b=>some (a++b) | none=>none)
   | none=>none)=some l:=hc
  split at hc'
  case h_2=>cases hc'
  rename_i a ha
  split at hc'
  case h_2=>cases hc'
  rename_i b hb
  injection hc' with hc';subst hc'
  obtain ⟨p,q,e0,e1,e2⟩:=avs_split e
  subst e0
  have hk':(kindO h (rebO g h (p++q++r)).1&&kindH hs (rebH g hs (rebO g h (p++q++r)).2).1)=true:=hk
  rw [Bool.and_eq_true,List.append_assoc] at hk'
  obtain ⟨k1,k2,k3⟩:=collO_ok hg (F:=F) ha e1 hk'.1
  have hk2:=hk'.2
  rw [k1] at hk2
  obtain ⟨k4,k5⟩:=collH_ok hg (F:=F) hb e2 hk2
  show (_::_).map _=_∧(_::_).map _=_
  rw [List.append_assoc,k1]
  exact ⟨by rw [List.map_cons,List.map_cons,k2,k4],by rw [List.map_cons,List.map_cons,k3,k5]⟩
theorem lnH_of {A B:List (TO G)} (h:A.map TO.len=B.map TO.len):lnH A=lnH B:=by
 funext j
 have h1:=congrArg (fun l=>l[j]?) h
 simp only [List.getElem?_map] at h1
 unfold lnH
 cases ha:A[j]? with
 | none=>rw [ha] at h1;cases hb:B[j]? with
  | none=>rfl
  | some b=>rw [hb] at h1;cases h1
 | some a=>rw [ha] at h1;cases hb:B[j]? with
  | none=>rw [hb] at h1;cases h1
  | some b=>rw [hb] at h1;injection h1
mutual
def indep:TV G→Bool
 | .own _=>false
 | .pe ..=>false
 | .rol es=>indepss es
 | .agg l=>indeps l
 | .tup l=>indeps l
 | .pro l=>indeps l
 | .fn _ l=>indeps l
 | _=>true
def indeps:List (TV G)→Bool
 | []=>true
 | x::xs=>indep x&&indeps xs
def indepss:List (List (TV G))→Bool
 | []=>true
 | x::xs=>indeps x&&indepss xs
end
mutual
theorem indep_av {g:Ge G} {ln ln':Nat→Nat}:∀ v:TV G,indep v=true→v.av g ln=v.av g ln'
 | .int _ _,_ | .bool _,_ | .str _,_ | .lst _ _,_ | .olst _ _,_ | .po ..,_ | .pa ..,_ | .sa ..,_ | .arr ..,_ | .optr ..,_ | .raw _,_=>rfl
 | .own _,h | .pe ..,h=>by cases h
 | .rol es,h=>by rw [TV.av,TV.av,indepss_av es h]
 | .agg l,h=>by rw [TV.av,TV.av,indeps_av l h]
 | .tup l,h=>by rw [TV.av,TV.av,indeps_av l h]
 | .pro l,h=>by rw [TV.av,TV.av,indeps_av l h]
 | .fn f l,h=>by rw [TV.av,TV.av,indeps_av l h]
theorem indeps_av {g:Ge G} {ln ln':Nat→Nat}:∀ l:List (TV G),indeps l=true→TV.avs g ln l=TV.avs g ln' l
 | [],_=>rfl
 | x::l,h=>by
  rw [indeps,Bool.and_eq_true] at h
  rw [TV.avs,TV.avs,indep_av x h.1,indeps_av l h.2]
theorem indepss_av {g:Ge G} {ln ln':Nat→Nat}:∀ l:List (List (TV G)),indepss l=true→TV.avss g ln l=TV.avss g ln' l
 | [],_=>rfl
 | x::l,h=>by
  rw [indepss,Bool.and_eq_true] at h
  rw [TV.avss,TV.avss,indeps_av x h.1,indepss_av l h.2]
end
def keepOk (u v:TV G):Bool:=match u with
 | .own i=>(match v with | .own j=>Nat.beq i j | _=>false)
 | u=>indep u
theorem keepOk_ok {g:Ge G} {ln ln':Nat→Nat} {u v:TV G} (h:keepOk u v=true) (hi:indep u=true→v.av g ln'=u.av g ln):u.av g ln'=v.av g ln':=by
 unfold keepOk at h
 split at h
 ·split at h
  ·rw [Nat.eq_of_beq_eq_true h]
  ·cases h
 ·rw [hi h];exact indep_av _ h
def putX {α:Type}:List (Nat×α)→Nat→α→List (Nat×α)
 | [],n,x=>[(n,x)]
 | (k,v)::r,n,x=>if k=n then (n,x)::r else if n < k then (n,x)::(k,v)::r else (k,v)::putX r n x
def memN (n:Nat):List Nat→Bool
 | []=>false
 | x::xs=>Nat.beq x n||memN n xs
def keptS (A:List Nat):List (Nat×TV G)→List (Nat×(Sh⊕TV G))
 | []=>[]
 | p::r=>if memN p.1 A then keptS A r else (p.1,.inr p.2)::keptS A r
def putsM:List (Nat×(Sh⊕TV G))→List (Nat×Sh)→List (Nat×(Sh⊕TV G))
 | m,[]=>m
 | m,p::r=>putsM (putX m p.1 (.inl p.2)) r
def collM (g:Ge G):List (Nat×(Sh⊕TV G))→List (Nat×TV G)→Option (List (TV G))
 | [],l=>(match l with | []=>some [] | _::_=>none)
 | p::m,l=>(match l with
  | q::l=>if Nat.beq p.1 q.1 then (match p.2 with
   | .inl s=>(match Sh.coll g s q.2 with
    | some a=>(match collM g m l with | some b=>some (a++b) | none=>none)
    | none=>none)
   | .inr u=>if keepOk u q.2 then collM g m l else none) else none
  | []=>none)
def rebM (g:Ge G):List (Nat×(Sh⊕TV G))→List (TV G)→List (Nat×TV G)×List (TV G)
 | [],l=>([],l)
 | p::m,l=>(match p.2 with
  | .inl s=>((p.1,(Sh.reb g s l).1)::(rebM g m (Sh.reb g s l).2).1,(rebM g m (Sh.reb g s l).2).2)
  | .inr u=>((p.1,u)::(rebM g m l).1,(rebM g m l).2))
theorem collM_ok {g:Ge G} {ln0 ln:Nat→Nat}:∀ {m:List (Nat×(Sh⊕TV G))} {sl:List (Nat×TV G)} {l:List (TV G)},collM g m sl=some l→(∀ x u v,(x,Sum.inr u)∈m→(x,v)∈sl→indep u=true→v.av g ln=u.av g ln0)→
 ∀ l' r,TV.avs g ln l'=TV.avs g ln l→∃ sl',rebM g m (l'++r)=(sl',r)∧avL g ln sl'=avL g ln sl
 | [],[],l,h,ha,l',r,e=>by injection h with h;subst h;rw [avs_nil e];exact ⟨[],rfl,rfl⟩
 | [],_::_,l,h,ha,l',r,e=>by cases h
 | _::_,[],l,h,ha,l',r,e=>by cases h
 | p::m,q::sl,l,h,ha,l',r,e=>by
  have h':(if Nat.beq p.1 q.1 then (match p.2 with
   | .inl s=>(match Sh.coll g s q.2 with
    | some a=>(match collM g m sl with | some b=>some (a++b) | none=>none)
    | none=>none)
   | .inr u=>if keepOk u q.2 then collM g m sl else none) else none)=some l:=h
  split at h'
  case isFalse=>cases h'
  rename_i hx
  have hx:=Nat.eq_of_beq_eq_true hx
  obtain ⟨x,p2⟩:=p
  obtain ⟨y,v⟩:=q
  dsimp only at hx h'
  subst hx
  have ha':∀ x u v,(x,Sum.inr u)∈m→(x,v)∈sl→indep u=true→v.av g ln=u.av g ln0:=fun x u v h1 h2=>ha x u v (List.mem_cons_of_mem _ h1) (List.mem_cons_of_mem _ h2)
  cases p2 with
  | inl s=>
   dsimp only at h'
   split at h'
   case h_2=>cases h'
   rename_i a hc
   split at h'
   case h_2=>cases h'
   rename_i b hb
   injection h' with h';subst h'
   obtain ⟨p,q,e0,e1,e2⟩:=avs_split e
   subst e0
   obtain ⟨v',k1,k2⟩:=coll_ok s v a hc p (q++r) e1
   obtain ⟨sl',k3,k4⟩:=collM_ok hb ha' q r e2
   refine ⟨(x,v')::sl',?_,?_⟩
   ·show (_::_,_)=_
    rw [List.append_assoc,k1]
    dsimp only
    rw [k3]
   ·show (x,_)::avL g ln sl'=(x,_)::avL g ln sl
    rw [k2,k4]
  | inr u=>
   dsimp only at h'
   split at h'
   case isFalse=>cases h'
   rename_i hk
   obtain ⟨sl',k3,k4⟩:=collM_ok h' ha' l' r e
   refine ⟨(x,u)::sl',?_,?_⟩
   ·show (_::_,_)=_
    rw [k3]
   ·show (x,_)::avL g ln sl'=(x,_)::avL g ln sl
    rw [k4,keepOk_ok (ln:=ln0) hk (fun hi=>ha x u v (List.mem_cons_self ..) (List.mem_cons_self ..) hi)]
def keepOks:List (TV G)→List (TV G)→Bool
 | [],l=>(match l with | []=>true | _::_=>false)
 | u::us,l=>(match l with | v::vs=>keepOk u v&&keepOks us vs | []=>false)
theorem keepOks_ok {g:Ge G} {ln ln':Nat→Nat}:∀ {us vs:List (TV G)},keepOks us vs=true→TV.avs g ln' vs=TV.avs g ln us→TV.avs g ln' us=TV.avs g ln' vs
 | [],[],_,_=>rfl
 | [],_::_,h,_=>by cases h
 | _::_,[],h,_=>by cases h
 | u::us,v::vs,h,e=>by
  have h:(keepOk u v&&keepOks us vs)=true:=h
  rw [Bool.and_eq_true] at h
  rw [TV.avs,TV.avs] at e
  injection e with e1 e2
  rw [TV.avs,TV.avs,keepOk_ok (ln:=ln) h.1 (fun _=>e1),keepOks_ok h.2 e2]
def keepF (u v:TV G):Bool:=match u,v with
 | .agg l,.agg m=>indeps l||keepOks l m
 | .pe i _ o,.pe j _ q=>Nat.beq i j&&Nat.beq o q
 | u,v=>keepOk u v
theorem keepF_ok {g:Ge G} {ln ln':Nat→Nat} {u v:TV G} (h:keepF u v=true) (hi:v.av g ln'=u.av g ln):u.av g ln'=v.av g ln':=by
 unfold keepF at h
 split at h
 ·rename_i l m
  rw [TV.av,TV.av] at hi ⊢
  injection hi with hi
  rw [Bool.or_eq_true] at h
  rcases h with h | h
  ·rw [hi,indeps_av l h]
  ·rw [keepOks_ok h hi]
 ·rename_i i n o j m q
  rw [Bool.and_eq_true] at h
  have e1:=Nat.eq_of_beq_eq_true h.1
  have e2:=Nat.eq_of_beq_eq_true h.2
  subst e1;subst e2
  injection hi with _ _ hi _
  show AV.pown i (ln' i) n.toNat o=AV.pown i (ln' i) m.toNat o
  rw [hi]
 ·exact keepOk_ok (ln:=ln) h (fun _=>hi)
def frS:List (Nat×TV G)→List (Nat×TV G)→Bool
 | [],l=>(match l with | []=>true | _::_=>false)
 | p::r,l=>(match l with | q::l=>keepF p.2 q.2&&frS r l | []=>false)
def frOk:List (Nat×List (Nat×TV G)×C3)→List (Nat×List (Nat×TV G)×C3)→Bool
 | [],l=>(match l with | []=>true | _::_=>false)
 | p::r,l=>(match l with | q::l=>frS p.2.1 q.2.1&&frOk r l | []=>false)
theorem frS_ok {g:Ge G} {ln ln':Nat→Nat}:∀ {a b:List (Nat×TV G)},frS a b=true→avL g ln' b=avL g ln a→avL g ln' a=avL g ln' b
 | [],[],_,_=>rfl
 | [],_::_,h,_=>by cases h
 | _::_,[],h,_=>by cases h
 | p::r,q::l,h,e=>by
  have h:(keepF p.2 q.2&&frS r l)=true:=h
  rw [Bool.and_eq_true] at h
  have e:(q.1,q.2.av g ln')::avL g ln' l=(p.1,p.2.av g ln)::avL g ln r:=e
  injection e with e1 e2
  injection e1 with e3 e4
  show (p.1,_)::avL g ln' r=(q.1,_)::avL g ln' l
  rw [keepF_ok (ln:=ln) h.1 e4,frS_ok h.2 e2,e3]
theorem frOk_ok {g:Ge G} {ln ln':Nat→Nat}:∀ {a b:List (Nat×List (Nat×TV G)×C3)},frOk a b=true→
 (b.map fun f=>((⟨f.1,avL g ln' f.2.1⟩:T),f.2.2))=(a.map fun f=>((⟨f.1,avL g ln f.2.1⟩:T),f.2.2))→(a.map fun f=>((⟨f.1,avL g ln' f.2.1⟩:T),f.2.2))=(b.map fun f=>((⟨f.1,avL g ln' f.2.1⟩:T),f.2.2))
 | [],[],_,_=>rfl
 | [],_::_,h,_=>by cases h
 | _::_,[],h,_=>by cases h
 | p::r,q::l,h,e=>by
  have h:(frS p.2.1 q.2.1&&frOk r l)=true:=h
  rw [Bool.and_eq_true] at h
  rw [List.map_cons,List.map_cons] at e
  injection e with e1 e2
  injection e1 with e3 e4
  injection e3 with e5 e6
  rw [List.map_cons,List.map_cons,frOk_ok h.2 e2,frS_ok h.1 e6,e5,e4]
def srtS:List (Nat×TV G)→Bool
 | []=>true
 | p::r=>(match r with | []=>true | q::_=>Nat.blt p.1 q.1)&&srtS r
theorem srtS_ok {g:Ge G} {ln:Nat→Nat}:∀ {l:List (Nat×TV G)},srtS l=true→T.Srt (T.keys (avL g ln l))
 | [],_=>List.Pairwise.nil
 | [p],_=>List.pairwise_singleton _ _
 | p::q::r,h=>by
  have h:(Nat.blt p.1 q.1&&srtS (q::r))=true:=h
  rw [Bool.and_eq_true] at h
  have ih:=srtS_ok (g:=g) (ln:=ln) h.2
  have h1:p.1 < q.1:=by simpa [Nat.blt_eq] using h.1
  refine List.Pairwise.cons ?_ ih
  intro k hk
  rcases List.mem_cons.1 hk with rfl | hk
  ·exact h1
  ·exact Nat.lt_trans h1 ((List.pairwise_cons.1 ih).1 k hk)
def Tm.M (P:Tm) (A:List Nat) (s:DS G):List (Nat×(Sh⊕TV G)):=putsM (keptS A s.sl) P.sl
def Tm.reb (g:Ge G) (P:Tm) (A:List Nat) (s:DS G) (w:DL G P.ts):DS G:=
 ⟨s.sz,(rebM g (P.M A s) (viewDL g P.ts w)).1,(rebH g P.H (rebM g (P.M A s) (viewDL g P.ts w)).2).1,s.fr⟩
def Tm.coll (g:Ge G) (P:Tm) (A:List Nat) (s s':DS G):Option (DL G P.ts):=
 if Nat.beq s'.sz s.sz&&(srtS s'.sl&&(frOk s.fr s'.fr&&srtS s.sl)) then
  (match collM g (P.M A s) s'.sl with
   | some a=>(match collH g P.H s'.H with
    | some b=>(match mkDL g P.ts (a++b) with
     | some w=>if kindH P.H (P.reb g A s w).H&&srtS (P.reb g A s w).sl then some w else none
     | none=>none)
    | none=>none)
   | none=>none)
 else none
theorem kept_mem {A:List Nat}:∀ {l:List (Nat×TV G)} {x:Nat} {u:TV G},(x,Sum.inr u)∈keptS A l→memN x A=false∧(x,u)∈l
 | [],x,u,h=>by cases h
 | p::r,x,u,h=>by
  rw [keptS] at h
  split at h
  ·obtain ⟨h1,h2⟩:=kept_mem h
   exact ⟨h1,List.mem_cons_of_mem _ h2⟩
  ·rename_i hn
   rcases List.mem_cons.1 h with e | h
   ·injection e with e1 e2;injection e2 with e2
    subst e1;subst e2
    exact ⟨by simpa using hn,List.mem_cons_self ..⟩
   ·obtain ⟨h1,h2⟩:=kept_mem h
    exact ⟨h1,List.mem_cons_of_mem _ h2⟩
theorem putX_mem {α:Type}:∀ {l:List (Nat×α)} {n:Nat} {x:α} {p:Nat×α},p∈putX l n x→p=(n,x)∨p∈l
 | [],n,x,p,h=>by simpa [putX] using h
 | (k,v)::r,n,x,p,h=>by
  rw [putX] at h
  split at h
  ·rcases List.mem_cons.1 h with h | h
   ·exact .inl h
   ·exact .inr (List.mem_cons_of_mem _ h)
  split at h
  ·rcases List.mem_cons.1 h with h | h
   ·exact .inl h
   ·exact .inr h
  ·rcases List.mem_cons.1 h with h | h
   ·exact .inr (h▸List.mem_cons_self ..)
   ·rcases putX_mem h with h | h
    ·exact .inl h
    ·exact .inr (List.mem_cons_of_mem _ h)
theorem putsM_mem:∀ {r:List (Nat×Sh)} {m:List (Nat×(Sh⊕TV G))} {x:Nat} {u:TV G},(x,Sum.inr u)∈putsM m r→(x,Sum.inr u)∈m
 | [],m,x,u,h=>h
 | p::r,m,x,u,h=>by
  rcases putX_mem (putsM_mem h) with e | h
  ·injection e with _ e;cases e
  ·exact h
theorem Tm.srt {g:Ge G} {P:Tm} {A:List Nat} {s s':DS G} {w:DL G P.ts} (h:P.coll g A s s'=some w):srtS s.sl=true∧srtS (P.reb g A s w).sl=true:=by
 unfold Tm.coll at h
 split at h
 case isFalse=>cases h
 rename_i hc
 simp only [Bool.and_eq_true] at hc
 split at h
 case h_2=>cases h
 split at h
 case h_2=>cases h
 split at h
 case h_2=>cases h
 rename_i w' hw
 split at h
 case isFalse=>cases h
 rename_i hk
 rw [Bool.and_eq_true] at hk
 injection h with h;subst h
 exact ⟨hc.2.2.2,hk.2⟩
theorem srt_get {g:Ge G} {s:DS G} (h:srtS s.sl=true) {x:Nat} {u:TV G} (hm:(x,u)∈s.sl):(s.tm g).get x=u.av g s.ln:=
 T.getL_mem _ (srtS_ok h) x _ (List.mem_map.2 ⟨(x,u),hm,rfl⟩)
theorem kept_get {g:Ge G} {P:Tm} {A:List Nat} {s:DS G} (h:srtS s.sl=true) {x:Nat} {u:TV G} (hm:(x,Sum.inr u)∈P.M A s):(s.tm g).get x=u.av g s.ln∧memN x A=false:=by
 obtain ⟨h4,h5⟩:=kept_mem (putsM_mem hm)
 exact ⟨srt_get h h5,h4⟩
theorem Tm.ok {g:Ge G} (hg:g.Ok) {P:Tm} {A:List Nat} {s s':DS G} {w:DL G P.ts} (h:P.coll g A s s'=some w)
 (ha:∀ x u,(x,Sum.inr u)∈P.M A s→indep u=true→(s'.tm g).get x=u.av g s.ln) (hf:s'.FR g=s.FR g):(P.reb g A s w).st g=s'.st g∧(P.reb g A s w).FR g=s'.FR g:=by
 unfold Tm.coll at h
 split at h
 case isFalse=>cases h
 rename_i hc
 simp only [Bool.and_eq_true] at hc
 have hsz:=Nat.eq_of_beq_eq_true hc.1
 split at h
 case h_2=>cases h
 rename_i a hma
 split at h
 case h_2=>cases h
 rename_i b hb
 split at h
 case h_2=>cases h
 rename_i w' hw
 split at h
 case isFalse=>cases h
 rename_i hk
 rw [Bool.and_eq_true] at hk
 have hk:=hk.1
 injection h with h;subst h
 have e1:TV.avs g s'.ln (viewDL g P.ts w')=TV.avs g s'.ln (a++b):=by rw [viewDL_av hg,mkDL_ok hg s'.ln _ _ _ hw]
 obtain ⟨p,q,e0,e2,e3⟩:=avs_split e1
 have hm:∀ x u v,(x,Sum.inr u)∈P.M A s→(x,v)∈s'.sl→indep u=true→v.av g s'.ln=u.av g s.ln:=by
  intro x u v h1 h2 h3
  rw [←ha x u h1 h3]
  have:(x,v.av g s'.ln)∈avL g s'.ln s'.sl:=List.mem_map.2 ⟨(x,v),h2,rfl⟩
  exact (T.getL_mem _ (srtS_ok hc.2.1) x _ this).symm
 obtain ⟨sl',k1,k2⟩:=collM_ok hma hm p q e2
 have hk':kindH P.H (rebH g P.H (q++[])).1=true:=by
  have:(P.reb g A s w').H=(rebH g P.H (q++[])).1:=by
   unfold Tm.reb
   dsimp only
   rw [e0,k1,List.append_nil]
  rw [←this];exact hk
 obtain ⟨k3,k4⟩:=collH_ok hg (F:=s'.FR g) hb e3 hk'
 rw [List.append_nil] at k3 k4
 have hH:(P.reb g A s w').H=(rebH g P.H q).1:=by unfold Tm.reb;dsimp only;rw [e0,k1]
 have hs:(P.reb g A s w').sl=sl':=by unfold Tm.reb;dsimp only;rw [e0,k1]
 have hln:(P.reb g A s w').ln=s'.ln:=by
  unfold DS.ln;rw [hH];exact lnH_of k4
 have hFR:(P.reb g A s w').FR g=s'.FR g:=by
  unfold DS.FR
  rw [hln]
  exact frOk_ok (ln:=s.ln) hc.2.2.1 hf
 refine ⟨?_,hFR⟩
 unfold DS.st DS.tm DS.Hv
 rw [hln,hFR,hH,hs,k2,k3]
 show (⟨⟨s.sz,_⟩,_⟩:ST)=_
 rw [hsz]
end
end Dnm
