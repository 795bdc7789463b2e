/- Typed states: shapes of states, and their plain values. No condition. -/
import Derived.Test.YtafgdbaekppjcaaGreatDoorDnE
set_option linter.unusedSectionVars false
set_option linter.unusedVariables false
set_option linter.unusedSimpArgs false
namespace oe
open Go hiding Obj mark
open Go.Pl Go.Am Go.Am.As
inductive Sh where
 | lf (t:Ty)
 | own (id:Nat)
 | po (id o:Nat)
 | c (v:AV)
 | agg (l:List Sh)
 | aY (l:List Sh)
 | bR (l:List Sh)
 | fn (f:Nat) (l:List Sh)
 | pe (id o:Nat)
 | cb (b:Bool)
 | re
 deriving Inhabited
inductive Oh where
 | dead
 | ew
 | aQ (fl:Fl) (t:Ty)
 | box (l:List Sh)
 | arr (n:Nat) (t:Ty)
 | lp (s:Ls) (fi:Nat)
 | rws (fl:Fl) (sz:Nat) (es:List (List AV))
 | mg
 | yN
 | imp
 deriving Inhabited
structure Tm where
 ts:List Ty
 sl:List (Nat×Sh)
 H:List Oh
 rv:Bool
 deriving Inhabited
def zn {α:Type} (b:Bool) (l:List α):List α:=cond b l.reverse l
theorem BJ {α:Type} (b:Bool) (l:List α):zn b (zn b l)=l:=by cases b;rfl;exact List.reverse_reverse l
theorem vh {α β:Type} (b:Bool) (f:α->β) (l:List α):(zn b l).map f=zn b (l.map f):=by cases b;rfl;exact List.map_reverse
section
variable {G:Nat->Type} {R:Type}
def DL (G:Nat->Type):List Ty->Type
 | []=>Unit
 | [t]=>t.D G
 | t::u::r=>t.D G×DL G (u::r)
def nr (g:Ge G):(ts:List Ty)->List (TV G)->Option (DL G ts)
 | [],l=>(match l with | []=>some () | _=>none)
 | [t],l=>(match l with | [v]=>yK g t v | _=>none)
 | t::u::r,l=>(match l with
  | v::l=>(match yK g t v with
   | some x=>(match nr g (u::r) l with | some y=>some (x,y) | none=>none)
   | none=>none)
  | []=>none)
def aI (g:Ge G):(ts:List Ty)->DL G ts->List (TV G)
 | [],_=>[]
 | [t],x=>[view g t x]
 | t::u::r,x=>view g t x.1::aI g (u::r) x.2
def vN (g:Ge G):(ts:List Ty)->DL G ts->List AV
 | [],_=>[]
 | [t],x=>[va g t x]
 | t::u::r,x=>va g t x.1::vN g (u::r) x.2
theorem ir {g:Ge G} (hg:g.Ok) (ln:Nat->Nat):∀ (ts:List Ty) (x:DL G ts),TV.aP g ln (aI g ts x)=vN g ts x
 | [],_=>rfl
 | [t],x=>congrArg (fun a=>[a]) (vi hg ln t x)
 | t::u::r,x=>by
  show _::_=_::_;exact congr (congrArg List.cons (vi hg ln t x.1)) (ir hg ln (u::r) x.2)
theorem kH {g:Ge G} (hg:g.Ok) (ln:Nat->Nat):∀ (ts:List Ty) (l:List (TV G)) (x:DL G ts),nr g ts l=some x->TV.aP g ln l=vN g ts x
 | [],[],x,h=>rfl
 | [],_::_,x,h=>nomatch h
 | [t],[v],x,h=>congrArg (fun a=>[a]) (mB hg ln t v x h)
 | [t],[],x,h=>nomatch h
 | [t],_::_::_,x,h=>nomatch h
 | t::u::r,[],x,h=>nomatch h
 | t::u::r,v::l,x,h=>by
  have h':(match yK g t v with
   | some x=>(match nr g (u::r) l with | some y=>some (x,y) | none=>none)
   | none=>none)=some x:=h
  split at h'
  case h_2=>cases h'
  rename_i a ha;split at h'
  case h_2=>cases h'
  rename_i b hb;injection h' with h';subst h'
  show _::_=_::_;exact congr (congrArg List.cons (mB hg ln t v a ha)) (kH hg ln (u::r) l b hb)
def Vf (i:Nat):TV G->Option (List (TV G))
 | .own j=>if Nat.beq i j then some [] else none
 | _=>none
def poC (i o:Nat):TV G->Option (List (TV G))
 | .po j p=>if Nat.beq i j&&Nat.beq o p then some [] else none
 | _=>none
def LN (a b:AV):Bool:=match a with
 | .fA i=>(match b with | .fA j=>Nat.beq i j | _=>false)
 | .qB i=>(match b with | .qB j=>Nat.beq i j | _=>false)
 | .any=>(match b with | .any=>true | _=>false)
 | a=>AV.same a b
theorem Ov {a b:AV} (h:LN a b=true):a=b:=by
 unfold LN at h;split at h
 ·split at h
  ·rw [za3 h]
  ·cases h
 ·split at h
  ·rw [za3 h]
  ·cases h
 ·split at h
  ·rfl
  ·cases h
 ·exact AV.bx h
def cC (a:AV):TV G->Option (List (TV G))
 | .raw b=>if LN a b then some [] else none
 | _=>none
def cbC (b:Bool):TV G->Option (List (TV G))
 | .bool c=>if b==c then some [] else none
 | _=>none
def reC:TV G->Option (List (TV G))
 | .o4 es=>(match es with | []=>some [] | _::_=>none)
 | _=>none
theorem Wj {v:TV G} {l:List (TV G)} (h:reC v=some l):v= .o4 []/\l=[]:=by
 cases v with
 | o4 es=>
  cases es with
  | nil=>injection h with h;exact ⟨rfl,h.symm⟩
  | cons x es=>cases h
 | _=>cases h
theorem Wl {b:Bool} {v:TV G} {l:List (TV G)} (h:cbC b v=some l):v= .bool b/\l=[]:=by
 cases v with
 | bool c=>
  unfold cbC at h;dsimp only at h;split at h
  ·rename_i hc;injection h with h;exact ⟨by rw [eq_of_beq hc],h.symm⟩
  ·cases h
 | _=>cases h
def Zw (f:List (TV G)->Option (List (TV G))):TV G->Option (List (TV G))
 | .agg vs=>f vs
 | _=>none
def Zx (f:List (TV G)->Option (List (TV G))):TV G->Option (List (TV G))
 | .aY vs=>f vs
 | _=>none
def Zy (f:List (TV G)->Option (List (TV G))):TV G->Option (List (TV G))
 | .bR vs=>f vs
 | _=>none
def fnC (n:Nat) (f:List (TV G)->Option (List (TV G))):TV G->Option (List (TV G))
 | .fn m vs=>if Nat.beq n m then f vs else none
 | _=>none
theorem RB {i:Nat} {v:TV G} {l:List (TV G)} (h:Vf i v=some l):v= .own i/\l=[]:=by
 cases v with
 | own j=>
  unfold Vf at h;dsimp only at h;split at h
  ·rename_i hc;injection h with h;exact ⟨by rw [za3 hc],h.symm⟩
  ·cases h
 | _=>cases h
theorem Wm {i o:Nat} {v:TV G} {l:List (TV G)} (h:poC i o v=some l):v= .po i o/\l=[]:=by
 cases v with
 | po j p=>
  unfold poC at h;dsimp only at h;split at h
  ·rename_i hc;rw [za0] at hc;injection h with h;exact ⟨by rw [za3 hc.1,za3 hc.2],h.symm⟩
  ·cases h
 | _=>cases h
theorem TQ {a:AV} {v:TV G} {l:List (TV G)} (h:cC a v=some l):v= .raw a/\l=[]:=by
 cases v with
 | raw b=>
  unfold cC at h;dsimp only at h;split at h
  ·rename_i hc;injection h with h;exact ⟨by rw [Ov hc],h.symm⟩
  ·cases h
 | _=>cases h
theorem RD {f:List (TV G)->Option (List (TV G))} {v:TV G} {l:List (TV G)} (h:Zw f v=some l):∃ vs,v= .agg vs/\f vs=some l:=by
 cases v with
 | agg vs=>exact ⟨vs,rfl,h⟩
 | _=>cases h
theorem RE {f:List (TV G)->Option (List (TV G))} {v:TV G} {l:List (TV G)} (h:Zx f v=some l):∃ vs,v= .aY vs/\f vs=some l:=by
 cases v with
 | aY vs=>exact ⟨vs,rfl,h⟩
 | _=>cases h
theorem RG {f:List (TV G)->Option (List (TV G))} {v:TV G} {l:List (TV G)} (h:Zy f v=some l):∃ vs,v= .bR vs/\f vs=some l:=by
 cases v with
 | bR vs=>exact ⟨vs,rfl,h⟩
 | _=>cases h
theorem Wn {n:Nat} {f:List (TV G)->Option (List (TV G))} {v:TV G} {l:List (TV G)} (h:fnC n f v=some l):∃ vs,v= .fn n vs/\f vs=some l:=by
 cases v with
 | fn m vs=>
  unfold fnC at h;dsimp only at h;split at h
  ·rename_i hc;exact ⟨vs,by rw [za3 hc],h⟩
  ·cases h
 | _=>cases h
def peC (i o:Nat):TV G->Option (List (TV G))
 | .pe j n p=>if Nat.beq i j&&Nat.beq o p then some [.int .i64 n] else none
 | _=>none
def avI:TV G->Option Int
 | .int _ n=>some n
 | .raw v=>(match v with | .int _ n=>some n | _=>none)
 | _=>none
def peR (i o:Nat) (v:TV G):TV G:=match avI v with
 | some n=> .pe i n o
 | none=> .raw .any
theorem Wo {i o:Nat} {v:TV G} {l:List (TV G)} (h:peC i o v=some l):∃ n,v= .pe i n o/\l=[.int .i64 n]:=by
 cases v with
 | pe j n p=>
  unfold peC at h;dsimp only at h;split at h
  ·rename_i hc;rw [za0] at hc;injection h with h;exact ⟨n,by rw [za3 hc.1,za3 hc.2],h.symm⟩
  ·cases h
 | _=>cases h
theorem Wp {g:Ge G} {ln:Nat->Nat} {v:TV G} {n:Int} (h:v.av g ln= .int .i64 n):avI v=some n:=by
 cases v with
 | int k m=>injection h with _ h;rw [h];rfl
 | raw a=>
  have h:a= .int .i64 n:=h;subst h;rfl
 | gr t o=>cases o<;>cases h
 | dO t o=>cases o<;>cases h
 | sa i lo len n hh=>
  have h:(if len=0 then AV.ro [] else .arr i 1 0 lo 1 len)=_:=h;split at h<;>cases h
 | _=>cases h
def TS:Sh->Option Nat
 | .lf (.st i)=>some i
 | _=>none
mutual
def Sh.coll (g:Ge G):Sh->TV G->Option (List (TV G))
 | .lf _,v=>some [v]
 | .own i,v=>Vf i v
 | .po i o,v=>poC i o v
 | .c a,v=>cC a v
 | .agg l,v=>Zw (Sh.qT g l) v
 | .aY l,v=>Zx (Sh.qT g l) v
 | .bR l,v=>Zy (Sh.qT g l) v
 | .fn f l,v=>fnC f (Sh.qT g l) v
 | .pe i o,v=>peC i o v
 | .cb b,v=>cbC b v
 | .re,v=>reC v
def Sh.qT (g:Ge G):List Sh->List (TV G)->Option (List (TV G))
 | [],vs=>(match vs with | []=>some [] | _::_=>none)
 | s::ss,vs=>(match TS s with
  | some i=>if Nat.ble (g.n i) vs.length then (match Sh.qT g ss (vs.drop (g.n i)) with | some r=>some (.agg (vs.take (g.n i))::r) | none=>none) else none
  | none=>(match vs with
   | v::vs=>(match Sh.coll g s v with
    | some a=>(match Sh.qT g ss vs with | some b=>some (a++b) | none=>none)
    | none=>none)
   | []=>none))
end
def vH:List (TV G)->TV G×List (TV G)
 | v::r=>(v,r)
 | []=>(.raw .any,[])
mutual
def Sh.eC (g:Ge G):Sh->List (TV G)->TV G×List (TV G)
 | .lf _,l=>vH l
 | .own i,l=>(.own i,l)
 | .po i o,l=>(.po i o,l)
 | .c a,l=>(.raw a,l)
 | .agg ss,l=>(.agg (Sh.oY g ss l).1,(Sh.oY g ss l).2)
 | .aY ss,l=>(.aY (Sh.oY g ss l).1,(Sh.oY g ss l).2)
 | .bR ss,l=>(.bR (Sh.oY g ss l).1,(Sh.oY g ss l).2)
 | .fn f ss,l=>(.fn f (Sh.oY g ss l).1,(Sh.oY g ss l).2)
 | .pe i o,l=>(peR i o (vH l).1,(vH l).2)
 | .cb b,l=>(.bool b,l)
 | .re,l=>(.o4 [],l)
def Sh.oY (g:Ge G):List Sh->List (TV G)->List (TV G)×List (TV G)
 | [],l=>([],l)
 | s::ss,l=>(match TS s with
  | some _=>((vH l).1.cells g++(Sh.oY g ss (vH l).2).1,(Sh.oY g ss (vH l).2).2)
  | none=>((Sh.eC g s l).1::(Sh.oY g ss (Sh.eC g s l).2).1,(Sh.oY g ss (Sh.eC g s l).2).2))
end
theorem kJ (g:Ge G) (ln:Nat->Nat) (a b:List (TV G)):TV.aP g ln (a++b)=TV.aP g ln a++TV.aP g ln b:=by
 rw [bV,bV,bV,zal]
theorem dZ {g:Ge G} {ln cc:Nat->Nat} {l a b:List (TV G)} (h:TV.aP g ln l=TV.aP g cc (a++b)):∃ a' b',l=a'++b'/\TV.aP g ln a'=TV.aP g cc a/\TV.aP g ln b'=TV.aP g cc b:=by
 rw [kJ,bV] at h;obtain ⟨p,q,e1,e2,e3⟩:=List.map_eq_append_iff.1 h;exact ⟨p,q,e1,by rw [bV];exact e2,by rw [bV];exact e3⟩
theorem mF {g:Ge G} {ln cc:Nat->Nat} {l:List (TV G)} {v:TV G} (h:TV.aP g ln l=TV.aP g cc [v]):∃ w,l=[w]/\w.av g ln=v.av g cc:=by
 match l with
 | []=>cases h
 | [w]=>injection h with h _;exact ⟨w,rfl,h⟩
 | _::_::_=>injection h with _ h;cases h
theorem fN {g:Ge G} {ln cc:Nat->Nat} {l:List (TV G)} (h:TV.aP g ln l=TV.aP g cc []):l=[]:=by
 cases l with
 | nil=>rfl
 | cons x l=>cases h
mutual
theorem rq {g:Ge G} {ln:Nat->Nat}:∀ (s:Sh) (v:TV G) (l:List (TV G)),Sh.coll g s v=some l->∀ l' r,TV.aP g ln l'=TV.aP g ln l->∃ v',Sh.eC g s (l'++r)=(v',r)/\v'.av g ln=v.av g ln
 | .lf t,v,l,h,l',r,e=>by
  injection h with h;subst h
  obtain ⟨w,e1,e2⟩:=mF e;subst e1;exact ⟨w,rfl,e2⟩
 | .own i,v,l,h,l',r,e=>by
  obtain ⟨rfl,rfl⟩:=RB (l:=l) h;rw [fN e];exact ⟨_,rfl,rfl⟩
 | .po i o,v,l,h,l',r,e=>by
  obtain ⟨rfl,rfl⟩:=Wm (l:=l) h;rw [fN e];exact ⟨_,rfl,rfl⟩
 | .c a,v,l,h,l',r,e=>by
  obtain ⟨rfl,rfl⟩:=TQ (l:=l) h;rw [fN e];exact ⟨_,rfl,rfl⟩
 | .agg ss,v,l,h,l',r,e=>by
  obtain ⟨vs,e0,h0⟩:=RD (l:=l) h;subst e0;obtain ⟨vs',h1,h2⟩:=jQ ss _ l h0 l' r e;exact ⟨.agg vs',by rw [Sh.eC,h1],by rw [TV.av,TV.av,h2]⟩
 | .aY ss,v,l,h,l',r,e=>by
  obtain ⟨vs,e0,h0⟩:=RE (l:=l) h;subst e0;obtain ⟨vs',h1,h2⟩:=jQ ss _ l h0 l' r e;exact ⟨.aY vs',by rw [Sh.eC,h1],by rw [TV.av,TV.av,h2]⟩
 | .bR ss,v,l,h,l',r,e=>by
  obtain ⟨vs,e0,h0⟩:=RG (l:=l) h;subst e0;obtain ⟨vs',h1,h2⟩:=jQ ss _ l h0 l' r e;exact ⟨.bR vs',by rw [Sh.eC,h1],by rw [TV.av,TV.av,h2]⟩
 | .fn f ss,v,l,h,l',r,e=>by
  obtain ⟨vs,e0,h0⟩:=Wn (l:=l) h;subst e0;obtain ⟨vs',h1,h2⟩:=jQ ss _ l h0 l' r e;exact ⟨.fn f vs',by rw [Sh.eC,h1],by rw [TV.av,TV.av,h2]⟩
 | .pe i o,v,l,h,l',r,e=>by
  obtain ⟨n,e0,h0⟩:=Wo (l:=l) h;subst e0;subst h0;obtain ⟨w,e1,e2⟩:=mF e;subst e1;refine ⟨.pe i n o,?_,rfl⟩;show (peR i o w,r)=_;unfold peR;rw [Wp e2]
 | .cb b,v,l,h,l',r,e=>by
  obtain ⟨rfl,rfl⟩:=Wl (l:=l) h;rw [fN e];exact ⟨_,rfl,rfl⟩
 | .re,v,l,h,l',r,e=>by
  obtain ⟨rfl,rfl⟩:=Wj (l:=l) h;rw [fN e];exact ⟨_,rfl,rfl⟩
theorem jQ {g:Ge G} {ln:Nat->Nat}:∀ (ss:List Sh) (vs l:List (TV G)),Sh.qT g ss vs=some l->∀ l' r,TV.aP g ln l'=TV.aP g ln l->∃ vs',Sh.oY g ss (l'++r)=(vs',r)/\TV.aP g ln vs'=TV.aP g ln vs
 | [],vs,l,h,l',r,e=>by
  cases vs with
  | cons v vs=>cases h
  | nil=>
   injection h with h;subst h
   rw [fN e];exact ⟨[],rfl,rfl⟩
 | s::ss,vs,l,h,l',r,e=>by
  rw [Sh.qT.eq_def] at h;rw [Sh.oY.eq_def];dsimp only at h ⊢;split at h
  ·rename_i i hm;split at h
   case isFalse=>cases h
   rename_i hc;split at h
   case h_2=>cases h
   rename_i b hb;injection h with h;subst h
   rw [<-zbT] at e;obtain ⟨p,q,e0,e1,e2⟩:=dZ e;subst e0;obtain ⟨w,e3,e4⟩:=mF e1;subst e3;obtain ⟨vs',h1,h2⟩:=jQ ss _ b hb q r e2;refine ⟨w.cells g++vs',?_,?_⟩
   ·show (_,_)=_;rw [show (vH (([w]++q)++r))=(w,q++r) from rfl];dsimp only;rw [h1]
   ·rw [kJ,h2,<-dn,e4];show TV.aP g ln (vs.take (g.n i))++_=_;rw [<-kJ,zbU]
  ·rename_i hm;split at h
   case h_2=>cases h
   rename_i v vs;split at h
   case h_2=>cases h
   rename_i a ha;split at h
   case h_2=>cases h
   rename_i b hb;injection h with h;subst h
   obtain ⟨p,q,e0,e1,e2⟩:=dZ e;subst e0;obtain ⟨v',h1,h2⟩:=rq s v a ha p (q++r) e1;obtain ⟨vs',h3,h4⟩:=jQ ss vs b hb q r e2;refine ⟨v'::vs',?_,by rw [TV.aP,TV.aP,h2,h4]⟩;rw [zaH,h1];dsimp only;rw [h3]
end
def ofC:AV->TV G
 | .own i _ _ _=> .own i
 | a=> .raw a
def cCo (a:AV) (v:TV G):Bool:=match a with
 | .own i _ _ _=>(match v with | .own j=>Nat.beq i j | _=>false)
 | a=>(match cC a v with | some _=>true | none=>false)
theorem Wq {a:AV} {v:TV G} (h:cCo a v=true):v=ofC a:=by
 unfold cCo at h;split at h
 ·split at h
  ·rw [za3 h];rfl
  ·cases h
 ·rename_i hn
  cases hc:cC a v with
  | none=>rw [hc] at h;cases h
  | some l=>
   rw [(TQ hc).1]
   cases a<;>first | rfl | exact (hn _ _ _ _ rfl).elim
def Yw:List AV->List (TV G)->Bool
 | [],vs=>(match vs with | []=>true | _::_=>false)
 | a::as,vs=>(match vs with
  | v::vs=>cCo a v&&Yw as vs
  | []=>false)
def QT:List (List AV)->List (List (TV G))->Bool
 | [],vs=>(match vs with | []=>true | _::_=>false)
 | a::as,vs=>(match vs with
  | v::vs=>Yw a v&&QT as vs
  | []=>false)
theorem MK:∀ {as:List AV} {vs:List (TV G)},Yw as vs=true->vs=as.map ofC
 | [],[],_=>rfl
 | [],_::_,h=>by cases h
 | _::_,[],h=>by cases h
 | a::as,v::vs,h=>by
  have h:(cCo a v&&Yw as vs)=true:=h;rw [za0] at h;rw [za5,<-MK h.2,<-Wq h.1]
theorem Ik:∀ {as:List (List AV)} {vs:List (List (TV G))},QT as vs=true->vs=as.map (List.map ofC)
 | [],[],_=>rfl
 | [],_::_,h=>by cases h
 | _::_,[],h=>by cases h
 | a::as,v::vs,h=>by
  have h:(Yw a v&&QT as vs)=true:=h;rw [za0] at h;rw [za5,<-Ik h.2,<-MK h.1]
def pq (g:Ge G):Oh->TO G->Option (List (TV G))
 | .dead,o=>(match o with | .dead=>some [] | _=>none)
 | .ew,o=>(match o with | .ew=>some [] | _=>none)
 | .aQ fl t,o=>(match o with
  | .aQ Tn u l=>if fl=Tn/\u=t then some [.aQ u l] else none
  | .cQ Tn sz es=>if fl=Tn/\sz=t.n g then (match pg g t es with | some m=>some [.aQ t m] | none=>none) else none
  | _=>none)
 | .box ss,o=>(match o with | .box vs=>Sh.qT g ss vs | _=>none)
 | .arr n t,o=>(match o with | .arr m u a=>if m=n/\u=t then some [.arr m u a] else none | _=>none)
 | .lp s fi,o=>(match o with | .lp s' fi'=>if s=s'/\fi=fi' then some [] else none | _=>none)
 | .rws fl sz es,o=>(match o with | .cQ Tn sz' ws=>if fl=Tn/\sz=sz'/\QT es ws=true then some [] else none | _=>none)
 | .mg,o=>(match o with | .mg l=>some [.aQ .str (l.map (·.1)),.aQ (.int .i64) (l.map (·.2))] | _=>none)
 | .yN,o=>(match o with | .yN s p=>some [.str s,.int .i64 p] | _=>none)
 | .imp,o=>(match o with | .imp l=>some [.aQ (.int .i64) l] | .mg l=>(match l with | []=>some [.aQ (.int .i64) []] | _::_=>none) | _=>none)
def Vg (fl:Fl):TV G->TO G
 | .aQ u m=> .aQ fl u m
 | _=> .dead
def Vh:TV G->TO G
 | .arr m u a=> .arr m u a
 | _=> .dead
def FJ (v w:TV G):TO G:=match v,w with
 | .aQ u m,.aQ u' m'=>if h:u= .str/\u'= .int .i64 then .mg (List.zip (h.1▸m:List (Ty.D G .str)) (h.2▸m':List (Ty.D G (.int .i64)))) else .dead
 | _,_=> .dead
def JI (v:TV G):TO G:=match v with
 | .aQ u m=>if h:u= .int .i64 then .imp (h▸m:List (Ty.D G (.int .i64))) else .dead
 | _=> .dead
def Vi (v w:TV G):TO G:=match v,w with
 | .str s,.int _ p=> .yN s p
 | _,_=> .dead
def ng (g:Ge G):Oh->List (TV G)->TO G×List (TV G)
 | .dead,l=>(.dead,l)
 | .ew,l=>(.ew,l)
 | .aQ fl t,l=>(Vg fl (vH l).1,(vH l).2)
 | .box ss,l=>(.box (Sh.oY g ss l).1,(Sh.oY g ss l).2)
 | .arr n t,l=>(Vh (vH l).1,(vH l).2)
 | .lp s fi,l=>(.lp s fi,l)
 | .rws fl sz es,l=>(.cQ fl sz (es.map (List.map ofC)),l)
 | .mg,l=>(FJ (vH l).1 (vH (vH l).2).1,(vH (vH l).2).2)
 | .yN,l=>(Vi (vH l).1 (vH (vH l).2).1,(vH (vH l).2).2)
 | .imp,l=>(JI (vH l).1,(vH l).2)
def ug (g:Ge G):List Oh->List (TO G)->Option (List (TV G))
 | [],os=>(match os with | []=>some [] | _::_=>none)
 | h::hs,os=>(match os with
  | o::os=>(match pq g h o with
   | some a=>(match ug g hs os with | some b=>some (a++b) | none=>none)
   | none=>none)
  | []=>none)
def kj (g:Ge G):List Oh->List (TV G)->List (TO G)×List (TV G)
 | [],l=>([],l)
 | h::hs,l=>((ng g h l).1::(kj g hs (ng g h l).2).1,(kj g hs (ng g h l).2).2)
def jD:Oh->TO G->Bool
 | .aQ _ t,o=>(match o with | .aQ _ u _=>decide (u=t) | _=>false)
 | .arr n t,o=>(match o with | .arr m u _=>decide (m=n/\u=t) | _=>false)
 | .mg,o=>(match o with | .mg _=>true | _=>false)
 | .yN,o=>(match o with | .yN ..=>true | _=>false)
 | .imp,o=>(match o with | .imp _=>true | _=>false)
 | _,_=>true
def qR:List Oh->List (TO G)->Bool
 | [],_=>true
 | h::hs,os=>(match os with
  | o::os=>jD h o&&qR hs os
  | []=>false)
theorem RH {fl:Fl} {v:TV G} {t:Ty} (h:jD (.aQ fl t) (Vg fl v)=true):∃ m,v= .aQ t m:=by
 cases v with
 | aQ u m=>
  have h:decide (u=t)=true:=h;simp only [decide_eq_true_eq] at h;subst h;exact ⟨m,rfl⟩
 | _=>cases h
theorem RI {n:Nat} {v:TV G} {t:Ty} (h:jD (.arr n t) (Vh v)=true):∃ a,v= .arr n t a:=by
 cases v with
 | arr m u a=>
  have h:decide (m=n/\u=t)=true:=h;simp only [decide_eq_true_eq] at h;obtain ⟨rfl,rfl⟩:=h;exact ⟨a,rfl⟩
 | _=>cases h
theorem Il {g:Ge G} {ln cc:Nat->Nat} {l:List (TV G)} {u v:TV G} (h:TV.aP g ln l=TV.aP g cc [u,v]):∃ w x,l=[w,x]/\w.av g ln=u.av g cc/\x.av g ln=v.av g cc:=by
 match l with
 | []=>cases h
 | [w]=>injection h with _ h;cases h
 | [w,x]=>injection h with h1 h;injection h with h2 _;exact ⟨w,x,rfl,h1,h2⟩
 | _::_::_::_=>injection h with _ h;injection h with _ h;cases h
theorem RJ {v w:TV G} (h:jD .mg (FJ v w)=true):∃ (ks:List (List UInt8)) (vs:List Int),v= .aQ .str ks/\w= .aQ (.int .i64) vs/\FJ v w= .mg (ks.zip vs):=by
 cases v with
 | aQ u m=>cases w with
  | aQ u' m'=>
   by_cases hh:u= .str/\u'= .int .i64
   ·obtain ⟨rfl,rfl⟩:=hh;exact ⟨m,m',rfl,rfl,rfl⟩
   ·exfalso;unfold FJ at h;dsimp only at h;rw [dif_neg hh] at h
    cases h
  | _=>cases h
 | _=>cases h
theorem Dw {α β:Type}:∀ l:List (α×β),(l.map (·.1)).zip (l.map (·.2))=l
 | []=>rfl
 | x::l=>by
  have h:(l.map (·.1)).zip (l.map (·.2))=l:=Dw l;rw [za5,za5,List.zip_cons_cons,h]
theorem str_inj:∀ {a b:List (List UInt8)},a.map (fun s=>[AV.str s])=b.map (fun s=>[AV.str s])->a=b
 | [],[],_=>rfl
 | [],_::_,h=>by cases h
 | _::_,[],h=>by cases h
 | x::a,y::b,h=>by
  rw [za5,za5] at h;injection h with h1 h2
  injection h1 with h1 _
  injection h1 with h1
  rw [h1,str_inj h2]
theorem int_inj:∀ {a b:List Int},a.map (fun s=>[AV.int .i64 s])=b.map (fun s=>[AV.int .i64 s])->a=b
 | [],[],_=>rfl
 | [],_::_,h=>by cases h
 | _::_,[],h=>by cases h
 | x::a,y::b,h=>by
  rw [za5,za5] at h;injection h with h1 h2
  injection h1 with h1 _
  injection h1 with _ h1
  rw [h1,int_inj h2]
theorem RK {v w:TV G} (h:jD .yN (Vi v w)=true):∃ s k p,v= .str s/\w= .int k p:=by
 cases v with
 | str s=>cases w with
  | int k p=>exact ⟨s,k,p,rfl,rfl⟩
  | _=>cases h
 | _=>cases h
theorem Im {v:TV G} (h:jD .imp (JI v)=true):∃ m:List Int,v= .aQ (.int .i64) m/\JI v= .imp m:=by
 cases v with
 | aQ u m=>
  by_cases hh:u= .int .i64
  ·subst hh;exact ⟨m,rfl,rfl⟩
  ·exfalso;unfold JI at h;dsimp only at h;rw [dif_neg hh] at h
   cases h
 | _=>cases h
theorem Dp {g:Ge G} (hg:g.Ok) {ln:Nat->Nat} {F:List (T×C3)} {h:Oh} {o:TO G} {l:List (TV G)} (hc:pq g h o=some l) {l' r:List (TV G)} (e:TV.aP g ln l'=TV.aP g ln l) (hk:jD h (ng g h (l'++r)).1=true):
 (ng g h (l'++r)).2=r/\(ng g h (l'++r)).1.av g ln F=o.av g ln F/\(ng g h (l'++r)).1.len=o.len:=by
 cases h with
 | dead=>
  cases o with
  | dead=>injection hc with hc;subst hc;rw [fN e];exact ⟨rfl,rfl,rfl⟩
  | _=>cases hc
 | ew=>
  cases o with
  | ew=>injection hc with hc;subst hc;rw [fN e];exact ⟨rfl,rfl,rfl⟩
  | _=>cases hc
 | lp s fi=>
  cases o with
  | lp s' fi'=>
   unfold pq at hc;dsimp only at hc;split at hc
   case isFalse=>cases hc
   rename_i h1;obtain ⟨rfl,rfl⟩:=h1;injection hc with hc;subst hc;rw [fN e];exact ⟨rfl,rfl,rfl⟩
  | _=>cases hc
 | mg=>
  cases o with
  | mg es=>
   injection hc with hc;subst hc
   obtain ⟨w,x,e1,e2,e3⟩:=Il e;subst e1;obtain ⟨ks,vs,rfl,rfl,e4⟩:=RJ (show jD .mg (FJ w x)=true from hk);injection e2 with e2
   injection e3 with e3
   have h1:ks=es.map (·.1):=str_inj e2;have h2:vs=es.map (·.2):=int_inj e3;refine ⟨rfl,?_,?_⟩
   ·rw [show (ng g Oh.mg ([TV.aQ Ty.str ks,TV.aQ (Ty.int IntKind.i64) vs]++r)).1=FJ (.aQ .str ks) (.aQ (.int .i64) vs) from rfl,e4,h1,h2,Dw]
   ·rw [show (ng g Oh.mg ([TV.aQ Ty.str ks,TV.aQ (Ty.int IntKind.i64) vs]++r)).1=FJ (.aQ .str ks) (.aQ (.int .i64) vs) from rfl,e4];rfl
  | _=>cases hc
 | yN=>
  cases o with
  | yN s p=>
   injection hc with hc;subst hc
   obtain ⟨w,x,e1,e2,e3⟩:=Il e;subst e1;obtain ⟨s',k,p',rfl,rfl⟩:=RK (show jD .yN (Vi w x)=true from hk);injection e2 with e2
   injection e3 with _ e3
   subst e2;subst e3;exact ⟨rfl,rfl,rfl⟩
  | _=>cases hc
 | imp=>
  cases o with
  | imp es=>
   injection hc with hc;subst hc
   obtain ⟨w,e1,e2⟩:=mF e;subst e1;obtain ⟨m,rfl,e4⟩:=Im (show jD .imp (JI w)=true from hk);injection e2 with e2
   have h1:m=es:=int_inj e2;subst h1;refine ⟨rfl,?_,?_⟩
   ·exact (congrArg (TO.av g ln F) e4).trans rfl
   ·exact (congrArg TO.len e4).trans rfl
  | mg es=>
   unfold pq at hc;dsimp only at hc;split at hc
   case h_2=>cases hc
   injection hc with hc;subst hc
   obtain ⟨w,e1,e2⟩:=mF e;subst e1;obtain ⟨m,rfl,e4⟩:=Im (show jD .imp (JI w)=true from hk);injection e2 with e2
   have h1:m=[]:=int_inj e2;subst h1;refine ⟨rfl,?_,?_⟩
   ·exact (congrArg (TO.av g ln F) e4).trans rfl
   ·exact (congrArg TO.len e4).trans rfl
  | _=>cases hc
 | rws fl sz es=>
  cases o with
  | cQ Tn sz' ws=>
   unfold pq at hc;dsimp only at hc;split at hc
   case isFalse=>cases hc
   rename_i h1;obtain ⟨rfl,rfl,h3⟩:=h1;injection hc with hc;subst hc;rw [fN e,Ik h3];exact ⟨rfl,rfl,rfl⟩
  | _=>cases hc
 | box ss=>
  cases o with
  | box vs=>
   obtain ⟨vs',h1,h2⟩:=jQ (ln:=ln) ss vs l hc l' r e;have hl:vs'.length=vs.length:=by have:=congrArg List.length h2;rwa [dy,dy] at this
   unfold ng;dsimp only;rw [h1];refine ⟨rfl,?_,rfl⟩;show Obj.live _ _ _=Obj.live _ _ _;rw [h2,hl]
  | _=>cases hc
 | arr n t=>
  cases o with
  | arr m u a=>
   unfold pq at hc;dsimp only at hc;split at hc
   case isFalse=>cases hc
   rename_i h1;obtain ⟨rfl,rfl⟩:=h1;injection hc with hc;subst hc
   obtain ⟨w,e1,e2⟩:=mF e;subst e1;have hk:jD (.arr m u) (Vh w)=true:=hk;obtain ⟨b,rfl⟩:=RI hk;refine ⟨rfl,?_,rfl⟩;injection e2 with e2
   show Obj.live _ _ [_]=Obj.live _ _ [_];rw [e2]
  | _=>cases hc
 | aQ fl t=>
  have fin:∀ {m:List (t.D G)} {o:TO G},l=[.aQ t m]->o.av g ln F= .live fl (t.n g) (m.map (enc g t))->o.len=m.length->(ng g (.aQ fl t) (l'++r)).2=r/\(ng g (.aQ fl t) (l'++r)).1.av g ln F=o.av g ln F/\(ng g (.aQ fl t) (l'++r)).1.len=o.len:=by
   intro m o e0 h1 h2;subst e0;obtain ⟨w,e1,e2⟩:=mF e;subst e1;have hk:jD (.aQ fl t) (Vg fl w)=true:=hk;obtain ⟨b,rfl⟩:=RH hk;injection e2 with e2
   refine ⟨rfl,?_,?_⟩
   ·rw [h1];show Obj.live _ _ _=Obj.live _ _ _;rw [e2]
   ·rw [h2];show b.length=m.length;have:=congrArg List.length e2;simpa using this
  cases o with
  | aQ Tn u m=>
   unfold pq at hc;dsimp only at hc;split at hc
   case isFalse=>cases hc
   rename_i h1;obtain ⟨rfl,rfl⟩:=h1;injection hc with hc
   exact fin hc.symm rfl rfl
  | cQ Tn sz es=>
   unfold pq at hc;dsimp only at hc;split at hc
   case isFalse=>cases hc
   rename_i h1;obtain ⟨rfl,rfl⟩:=h1;split at hc
   case h_2=>cases hc
   rename_i m hm;injection hc with hc
   obtain ⟨h2,h3⟩:=iL hg ln hm;exact fin hc.symm (by show Obj.live _ _ _=_;rw [h2]) h3
  | _=>cases hc
theorem nP {g:Ge G} (hg:g.Ok) {ln:Nat->Nat} {F:List (T×C3)}:∀ {hs:List Oh} {os:List (TO G)} {l:List (TV G)},ug g hs os=some l->∀ {l' r:List (TV G)},TV.aP g ln l'=TV.aP g ln l->qR hs (kj g hs (l'++r)).1=true->
 (kj g hs (l'++r)).1.map (TO.av g ln F)=os.map (TO.av g ln F)/\(kj g hs (l'++r)).1.map TO.len=os.map TO.len
 | [],[],l,h,l',r,e,hk=>⟨rfl,rfl⟩
 | [],_::_,l,h,l',r,e,hk=>by cases h
 | _::_,[],l,h,l',r,e,hk=>by cases h
 | h::hs,o::os,l,hc,l',r,e,hk=>by
  have Fu:(match pq g h o with
   | some a=>(match ug g hs os with | some b=>some (a++b) | none=>none)
   | none=>none)=some l:=hc
  split at Fu
  case h_2=>cases Fu
  rename_i a ha;split at Fu
  case h_2=>cases Fu
  rename_i b hb;injection Fu with Fu;subst Fu
  obtain ⟨p,q,e0,e1,e2⟩:=dZ e;subst e0;have hk':(jD h (ng g h (p++q++r)).1&&qR hs (kj g hs (ng g h (p++q++r)).2).1)=true:=hk;rw [za0,zaH] at hk';obtain ⟨k1,k2,k3⟩:=Dp hg (F:=F) ha e1 hk'.1;have hk2:=hk'.2;rw [k1] at hk2;obtain ⟨k4,k5⟩:=nP hg (F:=F) hb e2 hk2;show (_::_).map _=_/\(_::_).map _=_;rw [zaH,k1];exact ⟨by rw [za5,za5,k2,k4],by rw [za5,za5,k3,k5]⟩
theorem F4 {A B:List (TO G)} (h:A.map TO.len=B.map TO.len):ju A=ju B:=by
 funext j
 have h1:=congrArg (fun l=>l[j]?) h;simp only [zav] at h1;unfold ju
 cases ha:A[j]? with
 | none=>rw [ha] at h1;cases hb:B[j]? with
  | none=>rfl
  | some b=>rw [hb] at h1;cases h1
 | some a=>rw [ha] at h1;cases hb:B[j]? with
  | none=>rw [hb] at h1;cases h1
  | some b=>rw [hb] at h1;injection h1
mutual
def indep:TV G->Bool
 | .own _=>false
 | .pe ..=>false
 | .o4 es=>jh es
 | .agg l=>ig l
 | .aY l=>ig l
 | .bR l=>ig l
 | .fn _ l=>ig l
 | _=>true
def ig:List (TV G)->Bool
 | []=>true
 | x::xs=>indep x&&ig xs
def jh:List (List (TV G))->Bool
 | []=>true
 | x::xs=>ig x&&jh xs
end
mutual
theorem wY {g:Ge G} {ln cc:Nat->Nat}:∀ v:TV G,indep v=true->v.av g ln=v.av g cc
 | .int _ _,_ | .bool _,_ | .str _,_ | .aQ _ _,_ | .gr _ _,_ | .po ..,_ | .pa ..,_ | .sa ..,_ | .arr ..,_ | .dO ..,_ | .raw _,_=>rfl
 | .own _,h | .pe ..,h=>by cases h
 | .o4 es,h=>by rw [TV.av,TV.av,fV es h]
 | .agg l,h=>by rw [TV.av,TV.av,eH l h]
 | .aY l,h=>by rw [TV.av,TV.av,eH l h]
 | .bR l,h=>by rw [TV.av,TV.av,eH l h]
 | .fn f l,h=>by rw [TV.av,TV.av,eH l h]
theorem eH {g:Ge G} {ln cc:Nat->Nat}:∀ l:List (TV G),ig l=true->TV.aP g ln l=TV.aP g cc l
 | [],_=>rfl
 | x::l,h=>by
  rw [ig,za0] at h;rw [TV.aP,TV.aP,wY x h.1,eH l h.2]
theorem fV {g:Ge G} {ln cc:Nat->Nat}:∀ l:List (List (TV G)),jh l=true->TV.cV g ln l=TV.cV g cc l
 | [],_=>rfl
 | x::l,h=>by
  rw [jh,za0] at h;rw [TV.cV,TV.cV,eH x h.1,fV l h.2]
end
def pV (u v:TV G):Bool:=match u with
 | .own i=>(match v with | .own j=>Nat.beq i j | _=>false)
 | u=>indep u
theorem tA {g:Ge G} {ln cc:Nat->Nat} {u v:TV G} (h:pV u v=true) (hi:indep u=true->v.av g cc=u.av g ln):u.av g cc=v.av g cc:=by
 unfold pV at h;split at h
 ·split at h
  ·rw [za3 h]
  ·cases h
 ·rw [hi h];exact wY _ h
def K7 {α:Type}:List (Nat×α)->Nat->α->List (Nat×α)
 | [],n,x=>[(n,x)]
 | (k,v)::r,n,x=>if k=n then (n,x)::r else if n < k then (n,x)::(k,v)::r else (k,v)::K7 r n x
def mq (n:Nat):List Nat->Bool
 | []=>false
 | x::xs=>Nat.beq x n||mq n xs
def CZ (A:List Nat):List (Nat×TV G)->List (Nat×(Sh⊕TV G))
 | []=>[]
 | p::r=>if mq p.1 A then CZ A r else (p.1,.inr p.2)::CZ A r
def LO:List (Nat×(Sh⊕TV G))->List (Nat×Sh)->List (Nat×(Sh⊕TV G))
 | m,[]=>m
 | m,p::r=>LO (K7 m p.1 (.inl p.2)) r
def pn (g:Ge G):List (Nat×(Sh⊕TV G))->List (Nat×TV G)->Option (List (TV G))
 | [],l=>(match l with | []=>some [] | _::_=>none)
 | p::m,l=>(match l with
  | q::l=>if Nat.beq p.1 q.1 then (match p.2 with
   | .inl s=>(match Sh.coll g s q.2 with
    | some a=>(match pn g m l with | some b=>some (a++b) | none=>none)
    | none=>none)
   | .inr u=>if pV u q.2 then pn g m l else none) else none
  | []=>none)
def ki (g:Ge G):List (Nat×(Sh⊕TV G))->List (TV G)->List (Nat×TV G)×List (TV G)
 | [],l=>([],l)
 | p::m,l=>(match p.2 with
  | .inl s=>((p.1,(Sh.eC g s l).1)::(ki g m (Sh.eC g s l).2).1,(ki g m (Sh.eC g s l).2).2)
  | .inr u=>((p.1,u)::(ki g m l).1,(ki g m l).2))
theorem lG {g:Ge G} {XX ln:Nat->Nat}:∀ {m:List (Nat×(Sh⊕TV G))} {sl:List (Nat×TV G)} {l:List (TV G)},pn g m sl=some l->(∀ x u v,(x,Sum.inr u)∈m->(x,v)∈sl->indep u=true->v.av g ln=u.av g XX)->
 ∀ l' r,TV.aP g ln l'=TV.aP g ln l->∃ Ht,ki g m (l'++r)=(Ht,r)/\dJ g ln Ht=dJ g ln sl
 | [],[],l,h,ha,l',r,e=>by injection h with h;subst h;rw [fN e];exact ⟨[],rfl,rfl⟩
 | [],_::_,l,h,ha,l',r,e=>by cases h
 | _::_,[],l,h,ha,l',r,e=>by cases h
 | p::m,q::sl,l,h,ha,l',r,e=>by
  have h':(if Nat.beq p.1 q.1 then (match p.2 with
   | .inl s=>(match Sh.coll g s q.2 with
    | some a=>(match pn g m sl with | some b=>some (a++b) | none=>none)
    | none=>none)
   | .inr u=>if pV u q.2 then pn g m sl else none) else none)=some l:=h
  split at h'
  case isFalse=>cases h'
  rename_i hx;have hx:=za3 hx;obtain ⟨x,p2⟩:=p;obtain ⟨y,v⟩:=q;dsimp only at hx h';subst hx;have Uy:∀ x u v,(x,Sum.inr u)∈m->(x,v)∈sl->indep u=true->v.av g ln=u.av g XX:=fun x u v h1 h2=>ha x u v (zau _ h1) (zau _ h2)
  cases p2 with
  | inl s=>
   dsimp only at h';split at h'
   case h_2=>cases h'
   rename_i a hc;split at h'
   case h_2=>cases h'
   rename_i b hb;injection h' with h';subst h'
   obtain ⟨p,q,e0,e1,e2⟩:=dZ e;subst e0;obtain ⟨v',k1,k2⟩:=rq s v a hc p (q++r) e1;obtain ⟨Ht,k3,k4⟩:=lG hb Uy q r e2;refine ⟨(x,v')::Ht,?_,?_⟩
   ·show (_::_,_)=_;rw [zaH,k1];dsimp only;rw [k3]
   ·show (x,_)::dJ g ln Ht=(x,_)::dJ g ln sl;rw [k2,k4]
  | inr u=>
   dsimp only at h';split at h'
   case isFalse=>cases h'
   rename_i hk;obtain ⟨Ht,k3,k4⟩:=lG h' Uy l' r e;refine ⟨(x,u)::Ht,?_,?_⟩
   ·show (_::_,_)=_;rw [k3]
   ·show (x,_)::dJ g ln Ht=(x,_)::dJ g ln sl;rw [k4,tA (ln:=XX) hk (fun hi=>ha x u v (zaP ..) (zaP ..) hi)]
def vj:List (TV G)->List (TV G)->Bool
 | [],l=>(match l with | []=>true | _::_=>false)
 | u::us,l=>(match l with | v::vs=>pV u v&&vj us vs | []=>false)
theorem xZ {g:Ge G} {ln cc:Nat->Nat}:∀ {us vs:List (TV G)},vj us vs=true->TV.aP g cc vs=TV.aP g ln us->TV.aP g cc us=TV.aP g cc vs
 | [],[],_,_=>rfl
 | [],_::_,h,_=>by cases h
 | _::_,[],h,_=>by cases h
 | u::us,v::vs,h,e=>by
  have h:(pV u v&&vj us vs)=true:=h;rw [za0] at h;rw [TV.aP,TV.aP] at e;injection e with e1 e2
  rw [TV.aP,TV.aP,tA (ln:=ln) h.1 (fun _=>e1),xZ h.2 e2]
def HK (u v:TV G):Bool:=match u,v with
 | .agg l,.agg m=>ig l||vj l m
 | .pe i _ o,.pe j _ q=>Nat.beq i j&&Nat.beq o q
 | u,v=>pV u v
theorem Ow {g:Ge G} {ln cc:Nat->Nat} {u v:TV G} (h:HK u v=true) (hi:v.av g cc=u.av g ln):u.av g cc=v.av g cc:=by
 unfold HK at h;split at h
 ·rename_i l m;rw [TV.av,TV.av] at hi ⊢;injection hi with hi
  rw [zat] at h;rcases h with h | h
  ·rw [hi,eH l h]
  ·rw [xZ h hi]
 ·rename_i i n o j m q;rw [za0] at h;have e1:=za3 h.1;have e2:=za3 h.2;subst e1;subst e2;injection hi with _ _ hi _
  show AV.aJ i (cc i) n.toNat o=AV.aJ i (cc i) m.toNat o;rw [hi]
 ·exact tA (ln:=ln) h (fun _=>hi)
def Yx:List (Nat×TV G)->List (Nat×TV G)->Bool
 | [],l=>(match l with | []=>true | _::_=>false)
 | p::r,l=>(match l with | q::l=>HK p.2 q.2&&Yx r l | []=>false)
def QU:List (Nat×List (Nat×TV G)×C3)->List (Nat×List (Nat×TV G)×C3)->Bool
 | [],l=>(match l with | []=>true | _::_=>false)
 | p::r,l=>(match l with | q::l=>Yx p.2.1 q.2.1&&QU r l | []=>false)
theorem ML {g:Ge G} {ln cc:Nat->Nat}:∀ {a b:List (Nat×TV G)},Yx a b=true->dJ g cc b=dJ g ln a->dJ g cc a=dJ g cc b
 | [],[],_,_=>rfl
 | [],_::_,h,_=>by cases h
 | _::_,[],h,_=>by cases h
 | p::r,q::l,h,e=>by
  have h:(HK p.2 q.2&&Yx r l)=true:=h;rw [za0] at h;have e:(q.1,q.2.av g cc)::dJ g cc l=(p.1,p.2.av g ln)::dJ g ln r:=e;injection e with e1 e2
  injection e1 with e3 e4
  show (p.1,_)::dJ g cc r=(q.1,_)::dJ g cc l;rw [Ow (ln:=ln) h.1 e4,ML h.2 e2,e3]
theorem Io {g:Ge G} {ln cc:Nat->Nat}:∀ {a b:List (Nat×List (Nat×TV G)×C3)},QU a b=true->
 (b.map fun f=>((⟨f.1,dJ g cc f.2.1⟩:T),f.2.2))=(a.map fun f=>((⟨f.1,dJ g ln f.2.1⟩:T),f.2.2))->(a.map fun f=>((⟨f.1,dJ g cc f.2.1⟩:T),f.2.2))=(b.map fun f=>((⟨f.1,dJ g cc f.2.1⟩:T),f.2.2))
 | [],[],_,_=>rfl
 | [],_::_,h,_=>by cases h
 | _::_,[],h,_=>by cases h
 | p::r,q::l,h,e=>by
  have h:(Yx p.2.1 q.2.1&&QU r l)=true:=h;rw [za0] at h;rw [za5,za5] at e;injection e with e1 e2
  injection e1 with e3 e4
  injection e3 with e5 e6
  rw [za5,za5,Io h.2 e2,ML h.1 e6,e5,e4]
def yW:List (Nat×TV G)->Bool
 | []=>true
 | p::r=>(match r with | []=>true | q::_=>Nat.blt p.1 q.1)&&yW r
theorem BK {g:Ge G} {ln:Nat->Nat}:∀ {l:List (Nat×TV G)},yW l=true->T.KD (T.keys (dJ g ln l))
 | [],_=>List.Pairwise.nil
 | [p],_=>List.pairwise_singleton _ _
 | p::q::r,h=>by
  have h:(Nat.blt p.1 q.1&&yW (q::r))=true:=h;rw [za0] at h;have ih:=BK (g:=g) (ln:=ln) h.2;have h1:p.1 < q.1:=by simpa [zbV] using h.1
  refine List.Pairwise.cons ?_ ih;intro k hk;rcases zad.1 hk with rfl | hk
  ·exact h1
  ·exact Nat.lt_trans h1 ((zaJ.1 ih).1 k hk)
def Tm.M (P:Tm) (A:List Nat) (s:DS G):List (Nat×(Sh⊕TV G)):=LO (CZ A s.sl) P.sl
def Tm.eC (g:Ge G) (P:Tm) (A:List Nat) (s:DS G) (w:DL G P.ts):DS G:=
 ⟨s.sz,(ki g (P.M A s) (aI g P.ts w)).1,zn P.rv (kj g (zn P.rv P.H) (ki g (P.M A s) (aI g P.ts w)).2).1,s.fr⟩
def Tm.coll (g:Ge G) (P:Tm) (A:List Nat) (s s':DS G):Option (DL G P.ts):=
 if Nat.beq s'.sz s.sz&&(yW s'.sl&&(QU s.fr s'.fr&&yW s.sl)) then
  (match pn g (P.M A s) s'.sl with
   | some a=>(match ug g (zn P.rv P.H) (zn P.rv s'.H) with
    | some b=>(match nr g P.ts (a++b) with
     | some w=>if qR (zn P.rv P.H) (zn P.rv (P.eC g A s w).H)&&yW (P.eC g A s w).sl then some w else none
     | none=>none)
    | none=>none)
   | none=>none)
 else none
theorem xk {A:List Nat}:∀ {l:List (Nat×TV G)} {x:Nat} {u:TV G},(x,Sum.inr u)∈CZ A l->mq x A=false/\(x,u)∈l
 | [],x,u,h=>by cases h
 | p::r,x,u,h=>by
  rw [CZ] at h;split at h
  ·obtain ⟨h1,h2⟩:=xk h;exact ⟨h1,zau _ h2⟩
  ·rename_i hn;rcases zad.1 h with e | h
   ·injection e with e1 e2;injection e2 with e2
    subst e1;subst e2;exact ⟨by simpa using hn,zaP ..⟩
   ·obtain ⟨h1,h2⟩:=xk h;exact ⟨h1,zau _ h2⟩
theorem Dx {α:Type}:∀ {l:List (Nat×α)} {n:Nat} {x:α} {p:Nat×α},p∈K7 l n x->p=(n,x)\/p∈l
 | [],n,x,p,h=>by simpa [K7] using h
 | (k,v)::r,n,x,p,h=>by
  rw [K7] at h;split at h
  ·rcases zad.1 h with h | h
   ·exact .inl h
   ·exact .inr (zau _ h)
  split at h
  ·rcases zad.1 h with h | h
   ·exact .inl h
   ·exact .inr h
  ·rcases zad.1 h with h | h
   ·exact .inr (h▸zaP ..)
   ·rcases Dx h with h | h
    ·exact .inl h
    ·exact .inr (zau _ h)
theorem zZ:∀ {r:List (Nat×Sh)} {m:List (Nat×(Sh⊕TV G))} {x:Nat} {u:TV G},(x,Sum.inr u)∈LO m r->(x,Sum.inr u)∈m
 | [],m,x,u,h=>h
 | p::r,m,x,u,h=>by
  rcases Dx (zZ h) with e | h
  ·injection e with _ e;cases e
  ·exact h
theorem Tm.Uz {g:Ge G} {P:Tm} {A:List Nat} {s s':DS G} {w:DL G P.ts} (h:P.coll g A s s'=some w):yW s.sl=true/\yW (P.eC g A s w).sl=true:=by
 unfold Tm.coll at h;split at h
 case isFalse=>cases h
 rename_i hc;simp only [za0] at hc;split at h
 case h_2=>cases h
 split at h
 case h_2=>cases h
 split at h
 case h_2=>cases h
 rename_i w' hw;split at h
 case isFalse=>cases h
 rename_i hk;rw [za0] at hk;injection h with h;subst h
 exact ⟨hc.2.2.2,hk.2⟩
theorem RL {g:Ge G} {s:DS G} (h:yW s.sl=true) {x:Nat} {u:TV G} (hm:(x,u)∈s.sl):(s.tm g).get x=u.av g s.ln:=
 T.rW _ (BK h) x _ (zaT.2 ⟨(x,u),hm,rfl⟩)
theorem jR {g:Ge G} {P:Tm} {A:List Nat} {s:DS G} (h:yW s.sl=true) {x:Nat} {u:TV G} (hm:(x,Sum.inr u)∈P.M A s):(s.tm g).get x=u.av g s.ln/\mq x A=false:=by
 obtain ⟨h4,h5⟩:=xk (zZ hm);exact ⟨RL h h5,h4⟩
theorem Tm.ok {g:Ge G} (hg:g.Ok) {P:Tm} {A:List Nat} {s s':DS G} {w:DL G P.ts} (h:P.coll g A s s'=some w)
 (ha:∀ x u,(x,Sum.inr u)∈P.M A s->indep u=true->(s'.tm g).get x=u.av g s.ln) (hf:s'.FR g=s.FR g):(P.eC g A s w).st g=s'.st g/\(P.eC g A s w).FR g=s'.FR g:=by
 unfold Tm.coll at h;split at h
 case isFalse=>cases h
 rename_i hc;simp only [za0] at hc;have hsz:=za3 hc.1;split at h
 case h_2=>cases h
 rename_i a hma;split at h
 case h_2=>cases h
 rename_i b hb;split at h
 case h_2=>cases h
 rename_i w' hw;split at h
 case isFalse=>cases h
 rename_i hk;rw [za0] at hk;have hk:=hk.1;injection h with h;subst h
 have e1:TV.aP g s'.ln (aI g P.ts w')=TV.aP g s'.ln (a++b):=by rw [ir hg,kH hg s'.ln _ _ _ hw]
 obtain ⟨p,q,e0,e2,e3⟩:=dZ e1;have hm:∀ x u v,(x,Sum.inr u)∈P.M A s->(x,v)∈s'.sl->indep u=true->v.av g s'.ln=u.av g s.ln:=by
  intro x u v h1 h2 h3;rw [<-ha x u h1 h3];have:(x,v.av g s'.ln)∈dJ g s'.ln s'.sl:=zaT.2 ⟨(x,v),h2,rfl⟩;exact (T.rW _ (BK hc.2.1) x _ this).symm
 obtain ⟨Ht,k1,k2⟩:=lG hma hm p q e2;have hk':qR (zn P.rv P.H) (kj g (zn P.rv P.H) (q++[])).1=true:=by
  have:zn P.rv (P.eC g A s w').H=(kj g (zn P.rv P.H) (q++[])).1:=by
   unfold Tm.eC;dsimp only;rw [e0,k1,zbm,BJ]
  rw [<-this];exact hk
 obtain ⟨k3,k4⟩:=nP hg (F:=s'.FR g) hb e3 hk';rw [zbm] at k3 k4;have hH:(P.eC g A s w').H=zn P.rv (kj g (zn P.rv P.H) q).1:=by unfold Tm.eC;dsimp only;rw [e0,k1]
 have k3:(zn P.rv (kj g (zn P.rv P.H) q).1).map (TO.av g s'.ln (s'.FR g))=s'.H.map (TO.av g s'.ln (s'.FR g)):=by rw [vh,k3,vh,BJ]
 have k4:(zn P.rv (kj g (zn P.rv P.H) q).1).map TO.len=s'.H.map TO.len:=by rw [vh,k4,vh,BJ]
 have hs:(P.eC g A s w').sl=Ht:=by unfold Tm.eC;dsimp only;rw [e0,k1]
 have u6:(P.eC g A s w').ln=s'.ln:=by
  unfold DS.ln;rw [hH];exact F4 k4
 have yM:(P.eC g A s w').FR g=s'.FR g:=by
  unfold DS.FR;rw [u6];exact Io (ln:=s.ln) hc.2.2.1 hf
 refine ⟨?_,yM⟩;unfold DS.st DS.tm DS.Hv;rw [u6,yM,hH,hs,k2,k3];show (⟨⟨s.sz,_⟩,_⟩:ST)=_;rw [hsz]
end
end oe
