/- Typed states: shapes of states, and their plain values. No condition. -/
import Derived.Test.YtafgdbaekppjcaaGreatDoorDnE
set_option linter.unusedSectionVars false
set_option linter.unusedVariables false
set_option linter.unusedSimpArgs false
namespace nT
open Go hiding Obj mark
open Go.Pl Go.Am Go.Am.As
set_option linter.unusedVariables false
inductive Sh where
 | lf (t:Ty)
 | own (id:Nat)
 | po (id o:Nat)
 | c (v:AV)
 | agg (l:List Sh)
 | bk (l:List Sh)
 | bV (l:List Sh)
 | fn (f:Nat) (l:List Sh)
 | pe (id o:Nat)
 | cb (b:Bool)
 deriving Inhabited
inductive Oh where
 | dead
 | gB
 | bg (fl:Fl) (t:Ty)
 | box (l:List Sh)
 | arr (n:Nat) (t:Ty)
 | lp (s:Ls) (fi:Nat)
 | rws (fl:Fl) (sz:Nat) (es:List (List AV))
 | fQ
 | wC
 deriving Inhabited
structure Tm where
 ts:List Ty
 sl:List (Nat×Sh)
 H:List Oh
 deriving Inhabited
section
variable {G:Nat->Type} {R:Type}
def DL (G:Nat->Type):List Ty->Type
 | []=>Unit
 | [t]=>t.D G
 | t::u::r=>t.D G×DL G (u::r)
def lX (g:Ge G):(ts:List Ty)->List (TV G)->Option (DL G ts)
 | [],l=>(match l with | []=>some () | _=>none)
 | [t],l=>(match l with | [v]=>wA g t v | _=>none)
 | t::u::r,l=>(match l with
  | v::l=>(match wA g t v with
   | some x=>(match lX g (u::r) l with | some y=>some (x,y) | none=>none)
   | none=>none)
  | []=>none)
def aL (g:Ge G):(ts:List Ty)->DL G ts->List (TV G)
 | [],_=>[]
 | [t],x=>[view g t x]
 | t::u::r,x=>view g t x.1::aL g (u::r) x.2
def tR (g:Ge G):(ts:List Ty)->DL G ts->List AV
 | [],_=>[]
 | [t],x=>[va g t x]
 | t::u::r,x=>va g t x.1::tR g (u::r) x.2
theorem gH {g:Ge G} (hg:g.Ok) (ln:Nat->Nat):∀ (ts:List Ty) (x:DL G ts),TV.aR g ln (aL g ts x)=tR g ts x
 | [],_=>rfl
 | [t],x=>congrArg (fun a=>[a]) (tn hg ln t x)
 | t::u::r,x=>by
  show _::_=_::_;exact congr (congrArg List.cons (tn hg ln t x.1)) (gH hg ln (u::r) x.2)
theorem jM {g:Ge G} (hg:g.Ok) (ln:Nat->Nat):∀ (ts:List Ty) (l:List (TV G)) (x:DL G ts),lX g ts l=some x->TV.aR g ln l=tR g ts x
 | [],[],x,h=>rfl
 | [],_::_,x,h=>nomatch h
 | [t],[v],x,h=>congrArg (fun a=>[a]) (kU hg ln t v x h)
 | [t],[],x,h=>nomatch h
 | [t],_::_::_,x,h=>nomatch h
 | t::u::r,[],x,h=>nomatch h
 | t::u::r,v::l,x,h=>by
  have h':(match wA g t v with
   | some x=>(match lX g (u::r) l with | some y=>some (x,y) | none=>none)
   | none=>none)=some x:=h
  split at h'
  case h_2=>cases h'
  rename_i a ha;split at h'
  case h_2=>cases h'
  rename_i b hb;injection h' with h';subst h'
  show _::_=_::_;exact congr (congrArg List.cons (kU hg ln t v a ha)) (jM hg ln (u::r) l b hb)
def Qm (i:Nat):TV G->Option (List (TV G))
 | .own j=>if Nat.beq i j then some [] else none
 | _=>none
def XI (i o:Nat):TV G->Option (List (TV G))
 | .po j p=>if Nat.beq i j&&Nat.beq o p then some [] else none
 | _=>none
def HL (a b:AV):Bool:=match a with
 | .eI i=>(match b with | .eI j=>Nat.beq i j | _=>false)
 | .oZ i=>(match b with | .oZ j=>Nat.beq i j | _=>false)
 | .any=>(match b with | .any=>true | _=>false)
 | a=>AV.same a b
theorem J7 {a b:AV} (h:HL a b=true):a=b:=by
 unfold HL at h;split at h
 ·split at h
  ·rw [Nat.eq_of_beq_eq_true h]
  ·cases h
 ·split at h
  ·rw [Nat.eq_of_beq_eq_true h]
  ·cases h
 ·split at h
  ·rfl
  ·cases h
 ·exact AV.bq h
def cC (a:AV):TV G->Option (List (TV G))
 | .raw b=>if HL a b then some [] else none
 | _=>none
def XJ (b:Bool):TV G->Option (List (TV G))
 | .bool c=>if b==c then some [] else none
 | _=>none
theorem Rn {b:Bool} {v:TV G} {l:List (TV G)} (h:XJ b v=some l):v= .bool b/\l=[]:=by
 cases v with
 | bool c=>
  unfold XJ at h;dsimp only at h;split at h
  ·rename_i hc;injection h with h;exact ⟨by rw [eq_of_beq hc],h.symm⟩
  ·cases h
 | _=>cases h
def Un (f:List (TV G)->Option (List (TV G))):TV G->Option (List (TV G))
 | .agg vs=>f vs
 | _=>none
def Uo (f:List (TV G)->Option (List (TV G))):TV G->Option (List (TV G))
 | .bk vs=>f vs
 | _=>none
def Up (f:List (TV G)->Option (List (TV G))):TV G->Option (List (TV G))
 | .bV vs=>f vs
 | _=>none
def XK (n:Nat) (f:List (TV G)->Option (List (TV G))):TV G->Option (List (TV G))
 | .fn m vs=>if Nat.beq n m then f vs else none
 | _=>none
theorem MJ {i:Nat} {v:TV G} {l:List (TV G)} (h:Qm i v=some l):v= .own i/\l=[]:=by
 cases v with
 | own j=>
  unfold Qm at h;dsimp only at h;split at h
  ·rename_i hc;injection h with h;exact ⟨by rw [Nat.eq_of_beq_eq_true hc],h.symm⟩
  ·cases h
 | _=>cases h
theorem Ro {i o:Nat} {v:TV G} {l:List (TV G)} (h:XI i o v=some l):v= .po i o/\l=[]:=by
 cases v with
 | po j p=>
  unfold XI at h;dsimp only at h;split at h
  ·rename_i hc;rw [Bool.and_eq_true] at hc;injection h with h;exact ⟨by rw [Nat.eq_of_beq_eq_true hc.1,Nat.eq_of_beq_eq_true hc.2],h.symm⟩
  ·cases h
 | _=>cases h
theorem OX {a:AV} {v:TV G} {l:List (TV G)} (h:cC a v=some l):v= .raw a/\l=[]:=by
 cases v with
 | raw b=>
  unfold cC at h;dsimp only at h;split at h
  ·rename_i hc;injection h with h;exact ⟨by rw [J7 hc],h.symm⟩
  ·cases h
 | _=>cases h
theorem MK {f:List (TV G)->Option (List (TV G))} {v:TV G} {l:List (TV G)} (h:Un f v=some l):∃ vs,v= .agg vs/\f vs=some l:=by
 cases v with
 | agg vs=>exact ⟨vs,rfl,h⟩
 | _=>cases h
theorem ML {f:List (TV G)->Option (List (TV G))} {v:TV G} {l:List (TV G)} (h:Uo f v=some l):∃ vs,v= .bk vs/\f vs=some l:=by
 cases v with
 | bk vs=>exact ⟨vs,rfl,h⟩
 | _=>cases h
theorem MM {f:List (TV G)->Option (List (TV G))} {v:TV G} {l:List (TV G)} (h:Up f v=some l):∃ vs,v= .bV vs/\f vs=some l:=by
 cases v with
 | bV vs=>exact ⟨vs,rfl,h⟩
 | _=>cases h
theorem Rp {n:Nat} {f:List (TV G)->Option (List (TV G))} {v:TV G} {l:List (TV G)} (h:XK n f v=some l):∃ vs,v= .fn n vs/\f vs=some l:=by
 cases v with
 | fn m vs=>
  unfold XK at h;dsimp only at h;split at h
  ·rename_i hc;exact ⟨vs,by rw [Nat.eq_of_beq_eq_true hc],h⟩
  ·cases h
 | _=>cases h
def XL (i o:Nat):TV G->Option (List (TV G))
 | .pe j n p=>if Nat.beq i j&&Nat.beq o p then some [.int .i64 n] else none
 | _=>none
def avI:TV G->Option Int
 | .int _ n=>some n
 | .raw v=>(match v with | .int _ n=>some n | _=>none)
 | _=>none
def XM (i o:Nat) (v:TV G):TV G:=match avI v with
 | some n=> .pe i n o
 | none=> .raw .any
theorem Rq {i o:Nat} {v:TV G} {l:List (TV G)} (h:XL i o v=some l):∃ n,v= .pe i n o/\l=[.int .i64 n]:=by
 cases v with
 | pe j n p=>
  unfold XL at h;dsimp only at h;split at h
  ·rename_i hc;rw [Bool.and_eq_true] at hc;injection h with h;exact ⟨n,by rw [Nat.eq_of_beq_eq_true hc.1,Nat.eq_of_beq_eq_true hc.2],h.symm⟩
  ·cases h
 | _=>cases h
theorem Rr {g:Ge G} {ln:Nat->Nat} {v:TV G} {n:Int} (h:v.av g ln= .int .i64 n):avI v=some n:=by
 cases v with
 | int k m=>injection h with _ h;rw [h];rfl
 | raw a=>
  have h:a= .int .i64 n:=h;subst h;rfl
 | fS t o=>cases o<;>cases h
 | dB t o=>cases o<;>cases h
 | sa i lo len n hh=>
  have h:(if len=0 then AV.ro [] else .arr i 1 0 lo 1 len)=_:=h;split at h<;>cases h
 | _=>cases h
def OY:Sh->Option Nat
 | .lf (.st i)=>some i
 | _=>none
mutual
def Sh.coll (g:Ge G):Sh->TV G->Option (List (TV G))
 | .lf _,v=>some [v]
 | .own i,v=>Qm i v
 | .po i o,v=>XI i o v
 | .c a,v=>cC a v
 | .agg l,v=>Un (Sh.pG g l) v
 | .bk l,v=>Uo (Sh.pG g l) v
 | .bV l,v=>Up (Sh.pG g l) v
 | .fn f l,v=>XK f (Sh.pG g l) v
 | .pe i o,v=>XL i o v
 | .cb b,v=>XJ b v
def Sh.pG (g:Ge G):List Sh->List (TV G)->Option (List (TV G))
 | [],vs=>(match vs with | []=>some [] | _::_=>none)
 | s::ss,vs=>(match OY s with
  | some i=>if Nat.ble (g.n i) vs.length then (match Sh.pG g ss (vs.drop (g.n i)) with | some r=>some (.agg (vs.take (g.n i))::r) | none=>none) else none
  | none=>(match vs with
   | v::vs=>(match Sh.coll g s v with
    | some a=>(match Sh.pG g ss vs with | some b=>some (a++b) | none=>none)
    | none=>none)
   | []=>none))
end
def wF:List (TV G)->TV G×List (TV G)
 | v::r=>(v,r)
 | []=>(.raw .any,[])
mutual
def Sh.eo (g:Ge G):Sh->List (TV G)->TV G×List (TV G)
 | .lf _,l=>wF l
 | .own i,l=>(.own i,l)
 | .po i o,l=>(.po i o,l)
 | .c a,l=>(.raw a,l)
 | .agg ss,l=>(.agg (Sh.nP g ss l).1,(Sh.nP g ss l).2)
 | .bk ss,l=>(.bk (Sh.nP g ss l).1,(Sh.nP g ss l).2)
 | .bV ss,l=>(.bV (Sh.nP g ss l).1,(Sh.nP g ss l).2)
 | .fn f ss,l=>(.fn f (Sh.nP g ss l).1,(Sh.nP g ss l).2)
 | .pe i o,l=>(XM i o (wF l).1,(wF l).2)
 | .cb b,l=>(.bool b,l)
def Sh.nP (g:Ge G):List Sh->List (TV G)->List (TV G)×List (TV G)
 | [],l=>([],l)
 | s::ss,l=>(match OY s with
  | some _=>((wF l).1.cells g++(Sh.nP g ss (wF l).2).1,(Sh.nP g ss (wF l).2).2)
  | none=>((Sh.eo g s l).1::(Sh.nP g ss (Sh.eo g s l).2).1,(Sh.nP g ss (Sh.eo g s l).2).2))
end
theorem jN (g:Ge G) (ln:Nat->Nat) (a b:List (TV G)):TV.aR g ln (a++b)=TV.aR g ln a++TV.aR g ln b:=by
 rw [bX,bX,bX,List.map_append]
theorem dL {g:Ge G} {ln cj:Nat->Nat} {l a b:List (TV G)} (h:TV.aR g ln l=TV.aR g cj (a++b)):∃ a' b',l=a'++b'/\TV.aR g ln a'=TV.aR g cj a/\TV.aR g ln b'=TV.aR g cj b:=by
 rw [jN,bX] at h;obtain ⟨p,q,e1,e2,e3⟩:=List.map_eq_append_iff.1 h;exact ⟨p,q,e1,by rw [bX];exact e2,by rw [bX];exact e3⟩
theorem pQ {g:Ge G} {ln cj:Nat->Nat} {l:List (TV G)} {v:TV G} (h:TV.aR g ln l=TV.aR g cj [v]):∃ w,l=[w]/\w.av g ln=v.av g cj:=by
 match l with
 | []=>cases h
 | [w]=>injection h with h _;exact ⟨w,rfl,h⟩
 | _::_::_=>injection h with _ h;cases h
theorem gi {g:Ge G} {ln cj:Nat->Nat} {l:List (TV G)} (h:TV.aR g ln l=TV.aR g cj []):l=[]:=by
 cases l with
 | nil=>rfl
 | cons x l=>cases h
mutual
theorem pO {g:Ge G} {ln:Nat->Nat}:∀ (s:Sh) (v:TV G) (l:List (TV G)),Sh.coll g s v=some l->∀ l' r,TV.aR g ln l'=TV.aR g ln l->∃ v',Sh.eo g s (l'++r)=(v',r)/\v'.av g ln=v.av g ln
 | .lf t,v,l,h,l',r,e=>by
  injection h with h;subst h
  obtain ⟨w,e1,e2⟩:=pQ e;subst e1;exact ⟨w,rfl,e2⟩
 | .own i,v,l,h,l',r,e=>by
  obtain ⟨rfl,rfl⟩:=MJ (l:=l) h;rw [gi e];exact ⟨_,rfl,rfl⟩
 | .po i o,v,l,h,l',r,e=>by
  obtain ⟨rfl,rfl⟩:=Ro (l:=l) h;rw [gi e];exact ⟨_,rfl,rfl⟩
 | .c a,v,l,h,l',r,e=>by
  obtain ⟨rfl,rfl⟩:=OX (l:=l) h;rw [gi e];exact ⟨_,rfl,rfl⟩
 | .agg ss,v,l,h,l',r,e=>by
  obtain ⟨vs,e0,h0⟩:=MK (l:=l) h;subst e0;obtain ⟨vs',h1,h2⟩:=jf ss _ l h0 l' r e;exact ⟨.agg vs',by rw [Sh.eo,h1],by rw [TV.av,TV.av,h2]⟩
 | .bk ss,v,l,h,l',r,e=>by
  obtain ⟨vs,e0,h0⟩:=ML (l:=l) h;subst e0;obtain ⟨vs',h1,h2⟩:=jf ss _ l h0 l' r e;exact ⟨.bk vs',by rw [Sh.eo,h1],by rw [TV.av,TV.av,h2]⟩
 | .bV ss,v,l,h,l',r,e=>by
  obtain ⟨vs,e0,h0⟩:=MM (l:=l) h;subst e0;obtain ⟨vs',h1,h2⟩:=jf ss _ l h0 l' r e;exact ⟨.bV vs',by rw [Sh.eo,h1],by rw [TV.av,TV.av,h2]⟩
 | .fn f ss,v,l,h,l',r,e=>by
  obtain ⟨vs,e0,h0⟩:=Rp (l:=l) h;subst e0;obtain ⟨vs',h1,h2⟩:=jf ss _ l h0 l' r e;exact ⟨.fn f vs',by rw [Sh.eo,h1],by rw [TV.av,TV.av,h2]⟩
 | .pe i o,v,l,h,l',r,e=>by
  obtain ⟨n,e0,h0⟩:=Rq (l:=l) h;subst e0;subst h0;obtain ⟨w,e1,e2⟩:=pQ e;subst e1;refine ⟨.pe i n o,?_,rfl⟩;show (XM i o w,r)=_;unfold XM;rw [Rr e2]
 | .cb b,v,l,h,l',r,e=>by
  obtain ⟨rfl,rfl⟩:=Rn (l:=l) h;rw [gi e];exact ⟨_,rfl,rfl⟩
theorem jf {g:Ge G} {ln:Nat->Nat}:∀ (ss:List Sh) (vs l:List (TV G)),Sh.pG g ss vs=some l->∀ l' r,TV.aR g ln l'=TV.aR g ln l->∃ vs',Sh.nP g ss (l'++r)=(vs',r)/\TV.aR g ln vs'=TV.aR g ln vs
 | [],vs,l,h,l',r,e=>by
  cases vs with
  | cons v vs=>cases h
  | nil=>
   injection h with h;subst h
   rw [gi e];exact ⟨[],rfl,rfl⟩
 | s::ss,vs,l,h,l',r,e=>by
  rw [Sh.pG.eq_def] at h;rw [Sh.nP.eq_def];dsimp only at h ⊢;split at h
  ·rename_i i hm;split at h
   case isFalse=>cases h
   rename_i hc;split at h
   case h_2=>cases h
   rename_i b hb;injection h with h;subst h
   rw [<-List.singleton_append] at e;obtain ⟨p,q,e0,e1,e2⟩:=dL e;subst e0;obtain ⟨w,e3,e4⟩:=pQ e1;subst e3;obtain ⟨vs',h1,h2⟩:=jf ss _ b hb q r e2;refine ⟨w.cells g++vs',?_,?_⟩
   ·show (_,_)=_;rw [show (wF (([w]++q)++r))=(w,q++r) from rfl];dsimp only;rw [h1]
   ·rw [jN,h2,<-dc,e4];show TV.aR g ln (vs.take (g.n i))++_=_;rw [<-jN,List.take_append_drop]
  ·rename_i hm;split at h
   case h_2=>cases h
   rename_i v vs;split at h
   case h_2=>cases h
   rename_i a ha;split at h
   case h_2=>cases h
   rename_i b hb;injection h with h;subst h
   obtain ⟨p,q,e0,e1,e2⟩:=dL e;subst e0;obtain ⟨v',h1,h2⟩:=pO s v a ha p (q++r) e1;obtain ⟨vs',h3,h4⟩:=jf ss vs b hb q r e2;refine ⟨v'::vs',?_,by rw [TV.aR,TV.aR,h2,h4]⟩;rw [List.append_assoc,h1];dsimp only;rw [h3]
end
def WZ:AV->TV G
 | .own i _ _ _=> .own i
 | a=> .raw a
def W0 (a:AV) (v:TV G):Bool:=match a with
 | .own i _ _ _=>(match v with | .own j=>Nat.beq i j | _=>false)
 | a=>(match cC a v with | some _=>true | none=>false)
theorem Rs {a:AV} {v:TV G} (h:W0 a v=true):v=WZ a:=by
 unfold W0 at h;split at h
 ·split at h
  ·rw [Nat.eq_of_beq_eq_true h];rfl
  ·cases h
 ·rename_i hn
  cases hc:cC a v with
  | none=>rw [hc] at h;cases h
  | some l=>
   rw [(OX hc).1]
   cases a<;>first | rfl | exact (hn _ _ _ _ rfl).elim
def Tt:List AV->List (TV G)->Bool
 | [],vs=>(match vs with | []=>true | _::_=>false)
 | a::as,vs=>(match vs with
  | v::vs=>W0 a v&&Tt as vs
  | []=>false)
def Mc:List (List AV)->List (List (TV G))->Bool
 | [],vs=>(match vs with | []=>true | _::_=>false)
 | a::as,vs=>(match vs with
  | v::vs=>Tt a v&&Mc as vs
  | []=>false)
theorem IG:∀ {as:List AV} {vs:List (TV G)},Tt as vs=true->vs=as.map WZ
 | [],[],_=>rfl
 | [],_::_,h=>by cases h
 | _::_,[],h=>by cases h
 | a::as,v::vs,h=>by
  have h:(W0 a v&&Tt as vs)=true:=h;rw [Bool.and_eq_true] at h;rw [List.map_cons,<-IG h.2,<-Rs h.1]
theorem EE:∀ {as:List (List AV)} {vs:List (List (TV G))},Mc as vs=true->vs=as.map (List.map WZ)
 | [],[],_=>rfl
 | [],_::_,h=>by cases h
 | _::_,[],h=>by cases h
 | a::as,v::vs,h=>by
  have h:(Tt a v&&Mc as vs)=true:=h;rw [Bool.and_eq_true] at h;rw [List.map_cons,<-EE h.2,<-IG h.1]
def pE (g:Ge G):Oh->TO G->Option (List (TV G))
 | .dead,o=>(match o with | .dead=>some [] | _=>none)
 | .gB,o=>(match o with | .gB=>some [] | _=>none)
 | .bg fl t,o=>(match o with
  | .bg Ot u l=>if fl=Ot/\u=t then some [.bg u l] else none
  | .cN Ot sz es=>if fl=Ot/\sz=t.n g then (match nV g t es with | some m=>some [.bg t m] | none=>none) else none
  | _=>none)
 | .box ss,o=>(match o with | .box vs=>Sh.pG g ss vs | _=>none)
 | .arr n t,o=>(match o with | .arr m u a=>if m=n/\u=t then some [.arr m u a] else none | _=>none)
 | .lp s fi,o=>(match o with | .lp s' fi'=>if s=s'/\fi=fi' then some [] else none | _=>none)
 | .rws fl sz es,o=>(match o with | .cN Ot sz' ws=>if fl=Ot/\sz=sz'/\Mc es ws=true then some [] else none | _=>none)
 | .fQ,o=>(match o with | .fQ l=>some [.bg .str (l.map (·.1)),.bg (.int .i64) (l.map (·.2))] | _=>none)
 | .wC,o=>(match o with | .wC s p=>some [.str s,.int .i64 p] | _=>none)
def Qn (fl:Fl):TV G->TO G
 | .bg u m=> .bg fl u m
 | _=> .dead
def Qo:TV G->TO G
 | .arr m u a=> .arr m u a
 | _=> .dead
def CV (v w:TV G):TO G:=match v,w with
 | .bg u m,.bg u' m'=>if h:u= .str/\u'= .int .i64 then .fQ (List.zip (h.1▸m:List (Ty.D G .str)) (h.2▸m':List (Ty.D G (.int .i64)))) else .dead
 | _,_=> .dead
def Qp (v w:TV G):TO G:=match v,w with
 | .str s,.int _ p=> .wC s p
 | _,_=> .dead
def lR (g:Ge G):Oh->List (TV G)->TO G×List (TV G)
 | .dead,l=>(.dead,l)
 | .gB,l=>(.gB,l)
 | .bg fl t,l=>(Qn fl (wF l).1,(wF l).2)
 | .box ss,l=>(.box (Sh.nP g ss l).1,(Sh.nP g ss l).2)
 | .arr n t,l=>(Qo (wF l).1,(wF l).2)
 | .lp s fi,l=>(.lp s fi,l)
 | .rws fl sz es,l=>(.cN fl sz (es.map (List.map WZ)),l)
 | .fQ,l=>(CV (wF l).1 (wF (wF l).2).1,(wF (wF l).2).2)
 | .wC,l=>(Qp (wF l).1 (wF (wF l).2).1,(wF (wF l).2).2)
def sk (g:Ge G):List Oh->List (TO G)->Option (List (TV G))
 | [],os=>(match os with | []=>some [] | _::_=>none)
 | h::hs,os=>(match os with
  | o::os=>(match pE g h o with
   | some a=>(match sk g hs os with | some b=>some (a++b) | none=>none)
   | none=>none)
  | []=>none)
def j8 (g:Ge G):List Oh->List (TV G)->List (TO G)×List (TV G)
 | [],l=>([],l)
 | h::hs,l=>((lR g h l).1::(j8 g hs (lR g h l).2).1,(j8 g hs (lR g h l).2).2)
def lG:Oh->TO G->Bool
 | .bg _ t,o=>(match o with | .bg _ u _=>decide (u=t) | _=>false)
 | .arr n t,o=>(match o with | .arr m u _=>decide (m=n/\u=t) | _=>false)
 | .fQ,o=>(match o with | .fQ _=>true | _=>false)
 | .wC,o=>(match o with | .wC ..=>true | _=>false)
 | _,_=>true
def pD:List Oh->List (TO G)->Bool
 | [],_=>true
 | h::hs,os=>(match os with
  | o::os=>lG h o&&pD hs os
  | []=>false)
theorem MN {fl:Fl} {v:TV G} {t:Ty} (h:lG (.bg fl t) (Qn fl v)=true):∃ m,v= .bg t m:=by
 cases v with
 | bg u m=>
  have h:decide (u=t)=true:=h;simp only [decide_eq_true_eq] at h;subst h;exact ⟨m,rfl⟩
 | _=>cases h
theorem MO {n:Nat} {v:TV G} {t:Ty} (h:lG (.arr n t) (Qo v)=true):∃ a,v= .arr n t a:=by
 cases v with
 | arr m u a=>
  have h:decide (m=n/\u=t)=true:=h;simp only [decide_eq_true_eq] at h;obtain ⟨rfl,rfl⟩:=h;exact ⟨a,rfl⟩
 | _=>cases h
theorem EF {g:Ge G} {ln cj:Nat->Nat} {l:List (TV G)} {u v:TV G} (h:TV.aR g ln l=TV.aR g cj [u,v]):∃ w x,l=[w,x]/\w.av g ln=u.av g cj/\x.av g ln=v.av g cj:=by
 match l with
 | []=>cases h
 | [w]=>injection h with _ h;cases h
 | [w,x]=>injection h with h1 h;injection h with h2 _;exact ⟨w,x,rfl,h1,h2⟩
 | _::_::_::_=>injection h with _ h;injection h with _ h;cases h
theorem MQ {v w:TV G} (h:lG .fQ (CV v w)=true):∃ (ks:List (List UInt8)) (vs:List Int),v= .bg .str ks/\w= .bg (.int .i64) vs/\CV v w= .fQ (ks.zip vs):=by
 cases v with
 | bg u m=>cases w with
  | bg u' m'=>
   by_cases hh:u= .str/\u'= .int .i64
   ·obtain ⟨rfl,rfl⟩:=hh;exact ⟨m,m',rfl,rfl,rfl⟩
   ·exfalso;unfold CV at h;dsimp only at h;rw [dif_neg hh] at h
    cases h
  | _=>cases h
 | _=>cases h
theorem A2 {α β:Type}:∀ l:List (α×β),(l.map (·.1)).zip (l.map (·.2))=l
 | []=>rfl
 | x::l=>by
  have h:(l.map (·.1)).zip (l.map (·.2))=l:=A2 l;rw [List.map_cons,List.map_cons,List.zip_cons_cons,h]
theorem str_inj:∀ {a b:List (List UInt8)},a.map (fun s=>[AV.str s])=b.map (fun s=>[AV.str s])->a=b
 | [],[],_=>rfl
 | [],_::_,h=>by cases h
 | _::_,[],h=>by cases h
 | x::a,y::b,h=>by
  rw [List.map_cons,List.map_cons] at h;injection h with h1 h2
  injection h1 with h1 _
  injection h1 with h1
  rw [h1,str_inj h2]
theorem int_inj:∀ {a b:List Int},a.map (fun s=>[AV.int .i64 s])=b.map (fun s=>[AV.int .i64 s])->a=b
 | [],[],_=>rfl
 | [],_::_,h=>by cases h
 | _::_,[],h=>by cases h
 | x::a,y::b,h=>by
  rw [List.map_cons,List.map_cons] at h;injection h with h1 h2
  injection h1 with h1 _
  injection h1 with _ h1
  rw [h1,int_inj h2]
theorem MR {v w:TV G} (h:lG .wC (Qp v w)=true):∃ s k p,v= .str s/\w= .int k p:=by
 cases v with
 | str s=>cases w with
  | int k p=>exact ⟨s,k,p,rfl,rfl⟩
  | _=>cases h
 | _=>cases h
theorem AX {g:Ge G} (hg:g.Ok) {ln:Nat->Nat} {F:List (T×C3)} {h:Oh} {o:TO G} {l:List (TV G)} (hc:pE g h o=some l) {l' r:List (TV G)} (e:TV.aR g ln l'=TV.aR g ln l) (hk:lG h (lR g h (l'++r)).1=true):
 (lR g h (l'++r)).2=r/\(lR g h (l'++r)).1.av g ln F=o.av g ln F/\(lR g h (l'++r)).1.len=o.len:=by
 cases h with
 | dead=>
  cases o with
  | dead=>injection hc with hc;subst hc;rw [gi e];exact ⟨rfl,rfl,rfl⟩
  | _=>cases hc
 | gB=>
  cases o with
  | gB=>injection hc with hc;subst hc;rw [gi e];exact ⟨rfl,rfl,rfl⟩
  | _=>cases hc
 | lp s fi=>
  cases o with
  | lp s' fi'=>
   unfold pE at hc;dsimp only at hc;split at hc
   case isFalse=>cases hc
   rename_i h1;obtain ⟨rfl,rfl⟩:=h1;injection hc with hc;subst hc;rw [gi e];exact ⟨rfl,rfl,rfl⟩
  | _=>cases hc
 | fQ=>
  cases o with
  | fQ es=>
   injection hc with hc;subst hc
   obtain ⟨w,x,e1,e2,e3⟩:=EF e;subst e1;obtain ⟨ks,vs,rfl,rfl,e4⟩:=MQ (show lG .fQ (CV w x)=true from hk);injection e2 with e2
   injection e3 with e3
   have h1:ks=es.map (·.1):=str_inj e2;have h2:vs=es.map (·.2):=int_inj e3;refine ⟨rfl,?_,?_⟩
   ·rw [show (lR g Oh.fQ ([TV.bg Ty.str ks,TV.bg (Ty.int IntKind.i64) vs]++r)).1=CV (.bg .str ks) (.bg (.int .i64) vs) from rfl,e4,h1,h2,A2]
   ·rw [show (lR g Oh.fQ ([TV.bg Ty.str ks,TV.bg (Ty.int IntKind.i64) vs]++r)).1=CV (.bg .str ks) (.bg (.int .i64) vs) from rfl,e4];rfl
  | _=>cases hc
 | wC=>
  cases o with
  | wC s p=>
   injection hc with hc;subst hc
   obtain ⟨w,x,e1,e2,e3⟩:=EF e;subst e1;obtain ⟨s',k,p',rfl,rfl⟩:=MR (show lG .wC (Qp w x)=true from hk);injection e2 with e2
   injection e3 with _ e3
   subst e2;subst e3;exact ⟨rfl,rfl,rfl⟩
  | _=>cases hc
 | rws fl sz es=>
  cases o with
  | cN Ot sz' ws=>
   unfold pE at hc;dsimp only at hc;split at hc
   case isFalse=>cases hc
   rename_i h1;obtain ⟨rfl,rfl,h3⟩:=h1;injection hc with hc;subst hc;rw [gi e,EE h3];exact ⟨rfl,rfl,rfl⟩
  | _=>cases hc
 | box ss=>
  cases o with
  | box vs=>
   obtain ⟨vs',h1,h2⟩:=jf (ln:=ln) ss vs l hc l' r e;have hl:vs'.length=vs.length:=by have:=congrArg List.length h2;rwa [dh,dh] at this
   unfold lR;dsimp only;rw [h1];refine ⟨rfl,?_,rfl⟩;show Obj.live _ _ _=Obj.live _ _ _;rw [h2,hl]
  | _=>cases hc
 | arr n t=>
  cases o with
  | arr m u a=>
   unfold pE at hc;dsimp only at hc;split at hc
   case isFalse=>cases hc
   rename_i h1;obtain ⟨rfl,rfl⟩:=h1;injection hc with hc;subst hc
   obtain ⟨w,e1,e2⟩:=pQ e;subst e1;have hk:lG (.arr m u) (Qo w)=true:=hk;obtain ⟨b,rfl⟩:=MO hk;refine ⟨rfl,?_,rfl⟩;injection e2 with e2
   show Obj.live _ _ [_]=Obj.live _ _ [_];rw [e2]
  | _=>cases hc
 | bg fl t=>
  have fin:∀ {m:List (t.D G)} {o:TO G},l=[.bg t m]->o.av g ln F= .live fl (t.n g) (m.map (enc g t))->o.len=m.length->(lR g (.bg fl t) (l'++r)).2=r/\(lR g (.bg fl t) (l'++r)).1.av g ln F=o.av g ln F/\(lR g (.bg fl t) (l'++r)).1.len=o.len:=by
   intro m o e0 h1 h2;subst e0;obtain ⟨w,e1,e2⟩:=pQ e;subst e1;have hk:lG (.bg fl t) (Qn fl w)=true:=hk;obtain ⟨b,rfl⟩:=MN hk;injection e2 with e2
   refine ⟨rfl,?_,?_⟩
   ·rw [h1];show Obj.live _ _ _=Obj.live _ _ _;rw [e2]
   ·rw [h2];show b.length=m.length;have:=congrArg List.length e2;simpa using this
  cases o with
  | bg Ot u m=>
   unfold pE at hc;dsimp only at hc;split at hc
   case isFalse=>cases hc
   rename_i h1;obtain ⟨rfl,rfl⟩:=h1;injection hc with hc
   exact fin hc.symm rfl rfl
  | cN Ot sz es=>
   unfold pE at hc;dsimp only at hc;split at hc
   case isFalse=>cases hc
   rename_i h1;obtain ⟨rfl,rfl⟩:=h1;split at hc
   case h_2=>cases hc
   rename_i m hm;injection hc with hc
   obtain ⟨h2,h3⟩:=gY hg ln hm;exact fin hc.symm (by show Obj.live _ _ _=_;rw [h2]) h3
  | _=>cases hc
theorem mI {g:Ge G} (hg:g.Ok) {ln:Nat->Nat} {F:List (T×C3)}:∀ {hs:List Oh} {os:List (TO G)} {l:List (TV G)},sk g hs os=some l->∀ {l' r:List (TV G)},TV.aR g ln l'=TV.aR g ln l->pD hs (j8 g hs (l'++r)).1=true->
 (j8 g hs (l'++r)).1.map (TO.av g ln F)=os.map (TO.av g ln F)/\(j8 g hs (l'++r)).1.map TO.len=os.map TO.len
 | [],[],l,h,l',r,e,hk=>⟨rfl,rfl⟩
 | [],_::_,l,h,l',r,e,hk=>by cases h
 | _::_,[],l,h,l',r,e,hk=>by cases h
 | h::hs,o::os,l,hc,l',r,e,hk=>by
  have Cz:(match pE g h o with
   | some a=>(match sk g hs os with | some b=>some (a++b) | none=>none)
   | none=>none)=some l:=hc
  split at Cz
  case h_2=>cases Cz
  rename_i a ha;split at Cz
  case h_2=>cases Cz
  rename_i b hb;injection Cz with Cz;subst Cz
  obtain ⟨p,q,e0,e1,e2⟩:=dL e;subst e0;have hk':(lG h (lR g h (p++q++r)).1&&pD hs (j8 g hs (lR g h (p++q++r)).2).1)=true:=hk;rw [Bool.and_eq_true,List.append_assoc] at hk';obtain ⟨k1,k2,k3⟩:=AX hg (F:=F) ha e1 hk'.1;have hk2:=hk'.2;rw [k1] at hk2;obtain ⟨k4,k5⟩:=mI hg (F:=F) hb e2 hk2;show (_::_).map _=_/\(_::_).map _=_;rw [List.append_assoc,k1];exact ⟨by rw [List.map_cons,List.map_cons,k2,k4],by rw [List.map_cons,List.map_cons,k3,k5]⟩
theorem C8 {A B:List (TO G)} (h:A.map TO.len=B.map TO.len):jD A=jD B:=by
 funext j
 have h1:=congrArg (fun l=>l[j]?) h;simp only [List.getElem?_map] at h1;unfold jD
 cases ha:A[j]? with
 | none=>rw [ha] at h1;cases hb:B[j]? with
  | none=>rfl
  | some b=>rw [hb] at h1;cases h1
 | some a=>rw [ha] at h1;cases hb:B[j]? with
  | none=>rw [hb] at h1;cases h1
  | some b=>rw [hb] at h1;injection h1
mutual
def indep:TV G->Bool
 | .own _=>false
 | .pe ..=>false
 | .oY es=>iB es
 | .agg l=>gF l
 | .bk l=>gF l
 | .bV l=>gF l
 | .fn _ l=>gF l
 | _=>true
def gF:List (TV G)->Bool
 | []=>true
 | x::xs=>indep x&&gF xs
def iB:List (List (TV G))->Bool
 | []=>true
 | x::xs=>gF x&&iB xs
end
mutual
theorem uL {g:Ge G} {ln cj:Nat->Nat}:∀ v:TV G,indep v=true->v.av g ln=v.av g cj
 | .int _ _,_ | .bool _,_ | .str _,_ | .bg _ _,_ | .fS _ _,_ | .po ..,_ | .pa ..,_ | .sa ..,_ | .arr ..,_ | .dB ..,_ | .raw _,_=>rfl
 | .own _,h | .pe ..,h=>by cases h
 | .oY es,h=>by rw [TV.av,TV.av,fD es h]
 | .agg l,h=>by rw [TV.av,TV.av,eu l h]
 | .bk l,h=>by rw [TV.av,TV.av,eu l h]
 | .bV l,h=>by rw [TV.av,TV.av,eu l h]
 | .fn f l,h=>by rw [TV.av,TV.av,eu l h]
theorem eu {g:Ge G} {ln cj:Nat->Nat}:∀ l:List (TV G),gF l=true->TV.aR g ln l=TV.aR g cj l
 | [],_=>rfl
 | x::l,h=>by
  rw [gF,Bool.and_eq_true] at h;rw [TV.aR,TV.aR,uL x h.1,eu l h.2]
theorem fD {g:Ge G} {ln cj:Nat->Nat}:∀ l:List (List (TV G)),iB l=true->TV.cU g ln l=TV.cU g cj l
 | [],_=>rfl
 | x::l,h=>by
  rw [iB,Bool.and_eq_true] at h;rw [TV.cU,TV.cU,eu x h.1,fD l h.2]
end
def ox (u v:TV G):Bool:=match u with
 | .own i=>(match v with | .own j=>Nat.beq i j | _=>false)
 | u=>indep u
theorem rF {g:Ge G} {ln cj:Nat->Nat} {u v:TV G} (h:ox u v=true) (hi:indep u=true->v.av g cj=u.av g ln):u.av g cj=v.av g cj:=by
 unfold ox at h;split at h
 ·split at h
  ·rw [Nat.eq_of_beq_eq_true h]
  ·cases h
 ·rw [hi h];exact uL _ h
def Hh {α:Type}:List (Nat×α)->Nat->α->List (Nat×α)
 | [],n,x=>[(n,x)]
 | (k,v)::r,n,x=>if k=n then (n,x)::r else if n < k then (n,x)::(k,v)::r else (k,v)::Hh r n x
def kP (n:Nat):List Nat->Bool
 | []=>false
 | x::xs=>Nat.beq x n||kP n xs
def Ay (A:List Nat):List (Nat×TV G)->List (Nat×(Sh⊕TV G))
 | []=>[]
 | p::r=>if kP p.1 A then Ay A r else (p.1,.inr p.2)::Ay A r
def HM:List (Nat×(Sh⊕TV G))->List (Nat×Sh)->List (Nat×(Sh⊕TV G))
 | m,[]=>m
 | m,p::r=>HM (Hh m p.1 (.inl p.2)) r
def nW (g:Ge G):List (Nat×(Sh⊕TV G))->List (Nat×TV G)->Option (List (TV G))
 | [],l=>(match l with | []=>some [] | _::_=>none)
 | p::m,l=>(match l with
  | q::l=>if Nat.beq p.1 q.1 then (match p.2 with
   | .inl s=>(match Sh.coll g s q.2 with
    | some a=>(match nW g m l with | some b=>some (a++b) | none=>none)
    | none=>none)
   | .inr u=>if ox u q.2 then nW g m l else none) else none
  | []=>none)
def jy (g:Ge G):List (Nat×(Sh⊕TV G))->List (TV G)->List (Nat×TV G)×List (TV G)
 | [],l=>([],l)
 | p::m,l=>(match p.2 with
  | .inl s=>((p.1,(Sh.eo g s l).1)::(jy g m (Sh.eo g s l).2).1,(jy g m (Sh.eo g s l).2).2)
  | .inr u=>((p.1,u)::(jy g m l).1,(jy g m l).2))
theorem ko {g:Ge G} {S2 ln:Nat->Nat}:∀ {m:List (Nat×(Sh⊕TV G))} {sl:List (Nat×TV G)} {l:List (TV G)},nW g m sl=some l->(∀ x u v,(x,Sum.inr u)∈m->(x,v)∈sl->indep u=true->v.av g ln=u.av g S2)->
 ∀ l' r,TV.aR g ln l'=TV.aR g ln l->∃ D3,jy g m (l'++r)=(D3,r)/\dx g ln D3=dx g ln sl
 | [],[],l,h,ha,l',r,e=>by injection h with h;subst h;rw [gi e];exact ⟨[],rfl,rfl⟩
 | [],_::_,l,h,ha,l',r,e=>by cases h
 | _::_,[],l,h,ha,l',r,e=>by cases h
 | p::m,q::sl,l,h,ha,l',r,e=>by
  have h':(if Nat.beq p.1 q.1 then (match p.2 with
   | .inl s=>(match Sh.coll g s q.2 with
    | some a=>(match nW g m sl with | some b=>some (a++b) | none=>none)
    | none=>none)
   | .inr u=>if ox u q.2 then nW g m sl else none) else none)=some l:=h
  split at h'
  case isFalse=>cases h'
  rename_i hx;have hx:=Nat.eq_of_beq_eq_true hx;obtain ⟨x,p2⟩:=p;obtain ⟨y,v⟩:=q;dsimp only at hx h';subst hx;have PF:∀ x u v,(x,Sum.inr u)∈m->(x,v)∈sl->indep u=true->v.av g ln=u.av g S2:=fun x u v h1 h2=>ha x u v (List.mem_cons_of_mem _ h1) (List.mem_cons_of_mem _ h2)
  cases p2 with
  | inl s=>
   dsimp only at h';split at h'
   case h_2=>cases h'
   rename_i a hc;split at h'
   case h_2=>cases h'
   rename_i b hb;injection h' with h';subst h'
   obtain ⟨p,q,e0,e1,e2⟩:=dL e;subst e0;obtain ⟨v',k1,k2⟩:=pO s v a hc p (q++r) e1;obtain ⟨D3,k3,k4⟩:=ko hb PF q r e2;refine ⟨(x,v')::D3,?_,?_⟩
   ·show (_::_,_)=_;rw [List.append_assoc,k1];dsimp only;rw [k3]
   ·show (x,_)::dx g ln D3=(x,_)::dx g ln sl;rw [k2,k4]
  | inr u=>
   dsimp only at h';split at h'
   case isFalse=>cases h'
   rename_i hk;obtain ⟨D3,k3,k4⟩:=ko h' PF l' r e;refine ⟨(x,u)::D3,?_,?_⟩
   ·show (_::_,_)=_;rw [k3]
   ·show (x,_)::dx g ln D3=(x,_)::dx g ln sl;rw [k4,rF (ln:=S2) hk (fun hi=>ha x u v (List.mem_cons_self ..) (List.mem_cons_self ..) hi)]
def tq:List (TV G)->List (TV G)->Bool
 | [],l=>(match l with | []=>true | _::_=>false)
 | u::us,l=>(match l with | v::vs=>ox u v&&tq us vs | []=>false)
theorem vE {g:Ge G} {ln cj:Nat->Nat}:∀ {us vs:List (TV G)},tq us vs=true->TV.aR g cj vs=TV.aR g ln us->TV.aR g cj us=TV.aR g cj vs
 | [],[],_,_=>rfl
 | [],_::_,h,_=>by cases h
 | _::_,[],h,_=>by cases h
 | u::us,v::vs,h,e=>by
  have h:(ox u v&&tq us vs)=true:=h;rw [Bool.and_eq_true] at h;rw [TV.aR,TV.aR] at e;injection e with e1 e2
  rw [TV.aR,TV.aR,rF (ln:=ln) h.1 (fun _=>e1),vE h.2 e2]
def Eh (u v:TV G):Bool:=match u,v with
 | .agg l,.agg m=>gF l||tq l m
 | .pe i _ o,.pe j _ q=>Nat.beq i j&&Nat.beq o q
 | u,v=>ox u v
theorem J8 {g:Ge G} {ln cj:Nat->Nat} {u v:TV G} (h:Eh u v=true) (hi:v.av g cj=u.av g ln):u.av g cj=v.av g cj:=by
 unfold Eh at h;split at h
 ·rename_i l m;rw [TV.av,TV.av] at hi ⊢;injection hi with hi
  rw [Bool.or_eq_true] at h;rcases h with h | h
  ·rw [hi,eu l h]
  ·rw [vE h hi]
 ·rename_i i n o j m q;rw [Bool.and_eq_true] at h;have e1:=Nat.eq_of_beq_eq_true h.1;have e2:=Nat.eq_of_beq_eq_true h.2;subst e1;subst e2;injection hi with _ _ hi _
  show AV.ax i (cj i) n.toNat o=AV.ax i (cj i) m.toNat o;rw [hi]
 ·exact rF (ln:=ln) h (fun _=>hi)
def Tu:List (Nat×TV G)->List (Nat×TV G)->Bool
 | [],l=>(match l with | []=>true | _::_=>false)
 | p::r,l=>(match l with | q::l=>Eh p.2 q.2&&Tu r l | []=>false)
def Md:List (Nat×List (Nat×TV G)×C3)->List (Nat×List (Nat×TV G)×C3)->Bool
 | [],l=>(match l with | []=>true | _::_=>false)
 | p::r,l=>(match l with | q::l=>Tu p.2.1 q.2.1&&Md r l | []=>false)
theorem II {g:Ge G} {ln cj:Nat->Nat}:∀ {a b:List (Nat×TV G)},Tu a b=true->dx g cj b=dx g ln a->dx g cj a=dx g cj b
 | [],[],_,_=>rfl
 | [],_::_,h,_=>by cases h
 | _::_,[],h,_=>by cases h
 | p::r,q::l,h,e=>by
  have h:(Eh p.2 q.2&&Tu r l)=true:=h;rw [Bool.and_eq_true] at h;have e:(q.1,q.2.av g cj)::dx g cj l=(p.1,p.2.av g ln)::dx g ln r:=e;injection e with e1 e2
  injection e1 with e3 e4
  show (p.1,_)::dx g cj r=(q.1,_)::dx g cj l;rw [J8 (ln:=ln) h.1 e4,II h.2 e2,e3]
theorem EH {g:Ge G} {ln cj:Nat->Nat}:∀ {a b:List (Nat×List (Nat×TV G)×C3)},Md a b=true->
 (b.map fun f=>((⟨f.1,dx g cj f.2.1⟩:T),f.2.2))=(a.map fun f=>((⟨f.1,dx g ln f.2.1⟩:T),f.2.2))->(a.map fun f=>((⟨f.1,dx g cj f.2.1⟩:T),f.2.2))=(b.map fun f=>((⟨f.1,dx g cj f.2.1⟩:T),f.2.2))
 | [],[],_,_=>rfl
 | [],_::_,h,_=>by cases h
 | _::_,[],h,_=>by cases h
 | p::r,q::l,h,e=>by
  have h:(Tu p.2.1 q.2.1&&Md r l)=true:=h;rw [Bool.and_eq_true] at h;rw [List.map_cons,List.map_cons] at e;injection e with e1 e2
  injection e1 with e3 e4
  injection e3 with e5 e6
  rw [List.map_cons,List.map_cons,EH h.2 e2,II h.1 e6,e5,e4]
def wK:List (Nat×TV G)->Bool
 | []=>true
 | p::r=>(match r with | []=>true | q::_=>Nat.blt p.1 q.1)&&wK r
theorem zq {g:Ge G} {ln:Nat->Nat}:∀ {l:List (Nat×TV G)},wK l=true->T.GK (T.keys (dx g ln l))
 | [],_=>List.Pairwise.nil
 | [p],_=>List.pairwise_singleton _ _
 | p::q::r,h=>by
  have h:(Nat.blt p.1 q.1&&wK (q::r))=true:=h;rw [Bool.and_eq_true] at h;have ih:=zq (g:=g) (ln:=ln) h.2;have h1:p.1 < q.1:=by simpa [Nat.blt_eq] using h.1
  refine List.Pairwise.cons ?_ ih;intro k hk;rcases List.mem_cons.1 hk with rfl | hk
  ·exact h1
  ·exact Nat.lt_trans h1 ((List.pairwise_cons.1 ih).1 k hk)
def Tm.M (P:Tm) (A:List Nat) (s:DS G):List (Nat×(Sh⊕TV G)):=HM (Ay A s.sl) P.sl
def Tm.eo (g:Ge G) (P:Tm) (A:List Nat) (s:DS G) (w:DL G P.ts):DS G:=
 ⟨s.sz,(jy g (P.M A s) (aL g P.ts w)).1,(j8 g P.H (jy g (P.M A s) (aL g P.ts w)).2).1,s.fr⟩
def Tm.coll (g:Ge G) (P:Tm) (A:List Nat) (s s':DS G):Option (DL G P.ts):=
 if Nat.beq s'.sz s.sz&&(wK s'.sl&&(Md s.fr s'.fr&&wK s.sl)) then
  (match nW g (P.M A s) s'.sl with
   | some a=>(match sk g P.H s'.H with
    | some b=>(match lX g P.ts (a++b) with
     | some w=>if pD P.H (P.eo g A s w).H&&wK (P.eo g A s w).sl then some w else none
     | none=>none)
    | none=>none)
   | none=>none)
 else none
theorem uT {A:List Nat}:∀ {l:List (Nat×TV G)} {x:Nat} {u:TV G},(x,Sum.inr u)∈Ay A l->kP x A=false/\(x,u)∈l
 | [],x,u,h=>by cases h
 | p::r,x,u,h=>by
  rw [Ay] at h;split at h
  ·obtain ⟨h1,h2⟩:=uT h;exact ⟨h1,List.mem_cons_of_mem _ h2⟩
  ·rename_i hn;rcases List.mem_cons.1 h with e | h
   ·injection e with e1 e2;injection e2 with e2
    subst e1;subst e2;exact ⟨by simpa using hn,List.mem_cons_self ..⟩
   ·obtain ⟨h1,h2⟩:=uT h;exact ⟨h1,List.mem_cons_of_mem _ h2⟩
theorem A3 {α:Type}:∀ {l:List (Nat×α)} {n:Nat} {x:α} {p:Nat×α},p∈Hh l n x->p=(n,x)\/p∈l
 | [],n,x,p,h=>by simpa [Hh] using h
 | (k,v)::r,n,x,p,h=>by
  rw [Hh] at h;split at h
  ·rcases List.mem_cons.1 h with h | h
   ·exact .inl h
   ·exact .inr (List.mem_cons_of_mem _ h)
  split at h
  ·rcases List.mem_cons.1 h with h | h
   ·exact .inl h
   ·exact .inr h
  ·rcases List.mem_cons.1 h with h | h
   ·exact .inr (h▸List.mem_cons_self ..)
   ·rcases A3 h with h | h
    ·exact .inl h
    ·exact .inr (List.mem_cons_of_mem _ h)
theorem xI:∀ {r:List (Nat×Sh)} {m:List (Nat×(Sh⊕TV G))} {x:Nat} {u:TV G},(x,Sum.inr u)∈HM m r->(x,Sum.inr u)∈m
 | [],m,x,u,h=>h
 | p::r,m,x,u,h=>by
  rcases A3 (xI h) with e | h
  ·injection e with _ e;cases e
  ·exact h
theorem Tm.W1 {g:Ge G} {P:Tm} {A:List Nat} {s s':DS G} {w:DL G P.ts} (h:P.coll g A s s'=some w):wK s.sl=true/\wK (P.eo g A s w).sl=true:=by
 unfold Tm.coll at h;split at h
 case isFalse=>cases h
 rename_i hc;simp only [Bool.and_eq_true] at hc;split at h
 case h_2=>cases h
 split at h
 case h_2=>cases h
 split at h
 case h_2=>cases h
 rename_i w' hw;split at h
 case isFalse=>cases h
 rename_i hk;rw [Bool.and_eq_true] at hk;injection h with h;subst h
 exact ⟨hc.2.2.2,hk.2⟩
theorem MS {g:Ge G} {s:DS G} (h:wK s.sl=true) {x:Nat} {u:TV G} (hm:(x,u)∈s.sl):(s.tm g).get x=u.av g s.ln:=
 T.qg _ (zq h) x _ (List.mem_map.2 ⟨(x,u),hm,rfl⟩)
theorem jh {g:Ge G} {P:Tm} {A:List Nat} {s:DS G} (h:wK s.sl=true) {x:Nat} {u:TV G} (hm:(x,Sum.inr u)∈P.M A s):(s.tm g).get x=u.av g s.ln/\kP x A=false:=by
 obtain ⟨h4,h5⟩:=uT (xI hm);exact ⟨MS h h5,h4⟩
theorem Tm.ok {g:Ge G} (hg:g.Ok) {P:Tm} {A:List Nat} {s s':DS G} {w:DL G P.ts} (h:P.coll g A s s'=some w)
 (ha:∀ x u,(x,Sum.inr u)∈P.M A s->indep u=true->(s'.tm g).get x=u.av g s.ln) (hf:s'.FR g=s.FR g):(P.eo g A s w).st g=s'.st g/\(P.eo g A s w).FR g=s'.FR g:=by
 unfold Tm.coll at h;split at h
 case isFalse=>cases h
 rename_i hc;simp only [Bool.and_eq_true] at hc;have hsz:=Nat.eq_of_beq_eq_true hc.1;split at h
 case h_2=>cases h
 rename_i a hma;split at h
 case h_2=>cases h
 rename_i b hb;split at h
 case h_2=>cases h
 rename_i w' hw;split at h
 case isFalse=>cases h
 rename_i hk;rw [Bool.and_eq_true] at hk;have hk:=hk.1;injection h with h;subst h
 have e1:TV.aR g s'.ln (aL g P.ts w')=TV.aR g s'.ln (a++b):=by rw [gH hg,jM hg s'.ln _ _ _ hw]
 obtain ⟨p,q,e0,e2,e3⟩:=dL e1;have hm:∀ x u v,(x,Sum.inr u)∈P.M A s->(x,v)∈s'.sl->indep u=true->v.av g s'.ln=u.av g s.ln:=by
  intro x u v h1 h2 h3;rw [<-ha x u h1 h3];have:(x,v.av g s'.ln)∈dx g s'.ln s'.sl:=List.mem_map.2 ⟨(x,v),h2,rfl⟩;exact (T.qg _ (zq hc.2.1) x _ this).symm
 obtain ⟨D3,k1,k2⟩:=ko hma hm p q e2;have hk':pD P.H (j8 g P.H (q++[])).1=true:=by
  have:(P.eo g A s w').H=(j8 g P.H (q++[])).1:=by
   unfold Tm.eo;dsimp only;rw [e0,k1,List.append_nil]
  rw [<-this];exact hk
 obtain ⟨k3,k4⟩:=mI hg (F:=s'.FR g) hb e3 hk';rw [List.append_nil] at k3 k4;have hH:(P.eo g A s w').H=(j8 g P.H q).1:=by unfold Tm.eo;dsimp only;rw [e0,k1]
 have hs:(P.eo g A s w').sl=D3:=by unfold Tm.eo;dsimp only;rw [e0,k1]
 have yD:(P.eo g A s w').ln=s'.ln:=by
  unfold DS.ln;rw [hH];exact C8 k4
 have wB:(P.eo g A s w').FR g=s'.FR g:=by
  unfold DS.FR;rw [yD];exact EH (ln:=s.ln) hc.2.2.1 hf
 refine ⟨?_,wB⟩;unfold DS.st DS.tm DS.Hv;rw [yD,wB,hH,hs,k2,k3];show (⟨⟨s.sz,_⟩,_⟩:ST)=_;rw [hsz]
end
end nT
