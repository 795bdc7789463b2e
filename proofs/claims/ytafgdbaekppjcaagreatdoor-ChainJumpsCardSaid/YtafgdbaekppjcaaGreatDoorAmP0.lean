/- Parts of my machine and its laws, joined: AmP0 AmWr DnA. No condition. -/
import Derived.Test.YtafgdbaekppjcaaGreatDoorAmWp
import Derived.KernelRfl
set_option linter.unusedSectionVars false
set_option linter.unusedVariables false
set_option linter.unusedSimpArgs false
section
namespace Go.Pl
def aE (k:IntKind) (x y:Int):Int:=k.wrap (x+y)
def ct (k:IntKind) (x y:Int):Int:=k.wrap (x - y)
def dF (k:IntKind) (x y:Int):Int:=k.wrap (x*y)
def idx {α:Type} (l:List α) (i:Int):Option α:=if 0<=i then l[i.toNat]? else none
def bX {α:Type} (bytes:Nat) (l m:List α):Option (List α):=if (l.length+m.length)*bytes<=2 ^ 40/\l.length+m.length<=2 ^ 40 then some (l++m) else none
def iD {α:Type} (bytes:Nat) (n:Int) (z:α):Option (List α):=if 0<=n/\n*bytes<=2 ^ 40/\n<=2 ^ 40 then some (List.replicate n.toNat z) else none
def mj {α:Type} (l:List α) (lo hi:Option Int):Option (List α):=
 if 0<=lo.getD 0/\lo.getD 0<=hi.getD l.length/\hi.getD l.length<=l.length then some ((l.drop (lo.getD 0).toNat).take ((hi.getD l.length).toNat - (lo.getD 0).toNat)) else none
def JE (k:IntKind) (x y:Int):Option Int:=if y=0 then none else some (k.wrap (x.tdiv y))
def pI (x y:Int):Option Int:=if y=0 then none else some (x.tmod y)
def Zg (k:IntKind) (x y:Int):Option Int:=if y < 0 then none else some (k.wrap (x*2 ^ (min y.toNat k.bits)))
def Zh (k:IntKind) (x y:Int):Option Int:=if y < 0 then none else some (x.fdiv (2 ^ (min y.toNat k.bits)))
def fE (k:IntKind) (x y:Int):Int:=k.wrap ((BitVec.ofInt k.bits x)&&& (BitVec.ofInt k.bits y)).toNat
def orI (k:IntKind) (x y:Int):Int:=k.wrap ((BitVec.ofInt k.bits x)||| (BitVec.ofInt k.bits y)).toNat
def oT (x y:List UInt8):Option (List UInt8):=if x.length+y.length<=2 ^ 40 then some (x++y) else none
def abR (x y:Int):Int:=if y < x then y else x
def UW (x y:Int):Int:=if y > x then y else x
def abS {α:Type}:Option (List α)->Option Bool
 | none=>some true
 | some []=>none
 | some (_::_)=>some false
def Qx {α:Type} (bytes:Nat) (n:Int) (z:α):Option (List α):=if 0 < n/\n*bytes<=2 ^ 40/\n<=2 ^ 40 then some (List.replicate n.toNat z) else none
def ia {α:Type}:List α->Option Unit
 | []=>none
 | _::_=>some ()
def eB (n:Nat) (α:Type):Type:={ l:List α // l.length=n }
def eB.put {n:Nat} {α:Type} (a:eB n α) (i:Nat) (x:α):eB n α:=⟨a.1.set i x,by simp [a.2]⟩
def eB.rep (n:Nat) {α:Type} (x:α):eB n α:=⟨List.replicate n x,by simp⟩
theorem eB.len {n:Nat} {α:Type} (a:eB n α):a.1.length=n:=a.2
def eB.at {n:Nat} {α:Type} [Inhabited α] (a:eB n α) (k:Nat):α:=a.1.getD k default
def oU {n:Nat} {α:Type} (a:eB n α) (i:Int):Option α:=idx a.1 i
def mT {σ ρ:Type} (body:σ->Option (σ⊕ρ)):Nat->σ->Option ρ
 | 0,_=>none
 | n+1,s=>match body s with
  | none=>none
  | some (.inl s')=>mT body n s'
  | some (.inr r)=>some r
def fuel:Nat:=18446744073709551616
def iter {σ ρ:Type} (body:σ->Option (σ⊕ρ)) (s:σ):Option ρ:=mT body fuel s
theorem bind_some {α β:Type} {m:Option α} {f:α->Option β} {r:β} (h:m.bind f=some r):∃ v,m=some v/\f v=some r:=by
 cases m with
 | none=>simp at h
 | some v=>exact ⟨v,rfl,h⟩
theorem map_some {α β:Type} {m:Option α} {f:α->β} {r:β} (h:m.map f=some r):∃ v,m=some v/\f v=r:=by
 cases m with
 | none=>simp at h
 | some v=>exact ⟨v,rfl,by simpa using h⟩
theorem tg {σ ρ:Type} {body:σ->Option (σ⊕ρ)} (I:σ->Prop) (m:σ->Nat) (Q:ρ->Prop) {s:σ} (h0:I s) (hf:m s < fuel)
 (h:∀ s,I s->(∃ s',body s=some (.inl s')/\I s'/\m s' < m s)\/∃ r,body s=some (.inr r)/\Q r):∃ r,iter body s=some r/\Q r:=by
 have key:∀ n s,I s->m s < n->∃ r,mT body n s=some r/\Q r:=by
  intro n;induction n with
  | zero=>intro s _ hlt;omega
  | succ n ih=>
   intro s hi hlt;rcases h s hi with ⟨s',hb,hi',hm⟩ | ⟨r,hb,hq⟩
   ·obtain ⟨r,h1,h2⟩:=ih s' hi' (by omega);exact ⟨r,by rw [mT,hb];exact h1,h2⟩
   ·exact ⟨r,by rw [mT,hb],hq⟩
 exact key fuel s h0 hf
def Hl (x:List UInt8):List (List UInt8×Int)->Option Int
 | []=>none
 | p::r=>if x=p.1 then some p.2 else Hl x r
def Fs (x:List UInt8) (v:Int):List (List UInt8×Int)->List (List UInt8×Int)
 | []=>[(x,v)]
 | p::r=>if x=p.1 then (x,v)::r else p::Fs x v r
def isM (x:Int) (l:List Int):Bool:=l.contains x
def isP (x:Int) (l:List Int):List Int:=bif l.contains x then l else l++[x]
def Zi (l:List Int):Option (List Int):=if l.length<=1099511627776 then some (l.mergeSort fun x y=>decide (x<=y)) else none
def Zj (l:List Int):Option (List Int):=if l.length<=1099511627776 then some (Go.Lib.compact l) else none
def sG (s:List UInt8) (p:Int):Int×Int:=((Utf8.decode ⟨s.toArray⟩ p.toNat).1,((p.toNat+(Utf8.decode ⟨s.toArray⟩ p.toNat).2:Nat):Int))
end Go.Pl
end
section
namespace Go.Am
abbrev AV.i (n:Int):AV:= .int .i64 n
abbrev AV.po (id o:Nat):AV:= .aJ id 1 0 o
abbrev Obj.lv (n:Nat) (cs:List AV):Obj:= .live .norm n [cs]
end Go.Am
namespace Go.Am.As
open Go.Pl
def W (E:Env) (hp:Nat->Bool) (c:RC) (b:Nat) (N:ST->Prop) (X:Nat->ST->Prop) (R:ST->Prop) (s:ST):Prop:=
 WP E hp c b (fun e s'=>match e with | .normal=>N s' | .exit i=>X i s' | .ret=>R s') s
section
variable {E:Env} {hp:Nat->Bool} {b:Nat} {N:ST->Prop} {X:Nat->ST->Prop} {R:ST->Prop} {s:ST}
theorem W.mono {c:RC} {N' X' R'} (h:W E hp c b N X R s) (hn:∀ s,N s->N' s) (hx:∀ i s,X i s->X' i s) (hr:∀ s,R s->R' s):W E hp c b N' X' R' s:=
 WP.mono h fun e s' q=>by cases e with | normal=>exact hn _ q | exit i=>exact hx _ _ q | ret=>exact hr _ q
theorem qo {α:Type} {C:α->List AV} (h:∀ x,AV.aR 0 (C x)=true) (n:Nat):∀ l:List α,AV.bO n (l.map C)=true
 | []=>rfl
 | x::l=>by simp [AV.bO,gj (zaO n) _ (h x),qo h n l]
variable {dr:Bool} {t:T} {H:List Obj} {K:T->List Obj->Prop}
variable {d:Option Nat} {g:Option (Nat×Bool)} {os:List bH}
theorem Xv {f:Nat} {xs:List AV} {K:AV->List Obj->Prop} {na nt:Nat} {rs:List (Sum Nat (Nat×Nat×Bool))} {body:RC} (hfn:E.fns f=some ⟨na,nt,rs,body⟩) (hf:hp f=true\/snaps H xs=none) (hn:xs.length=na) (hm:na<=nt)
 (h:WP E hp body H.length (fun e s'=>match e with | .exit _=>False | _=>∃ l,bQ rs s'=some l/\K (oneOf l) s'.H) ⟨⟨nt,T.kq xs 0⟩,H⟩):WC E hp false f xs H K:=by
 obtain ⟨n,e,s',h,hq⟩:=h;have key:∀ {l:List AV},bQ rs s'=some l->(e= .normal\/e= .ret)->bJ (bif false then fun _=>false else hp) (kh E.fns (ak E hp n)) (bif false then fun _ _ _=>none else kg E.fns (ak E hp n)) f xs H=some (oneOf l,s'.H):=by
  intro l hl he;have hc:kg E.fns (ak E hp n) f xs H=some (oneOf l,s'.H):=by
   simp only [kg,hfn,hn,hm,and_self,if_true];have hst:eZ (⟨na,nt,rs,body⟩:RF) xs=⟨nt,T.kq xs 0⟩:=rfl;rw [hst,h];rcases he with rfl | rfl<;>simp only [hl]
  unfold bJ;simp only [cond_false];by_cases hp':hp f=true
  ·rw [if_pos hp'];exact hc
  ·rw [if_neg hp'];rcases hf with hf | hf
   ·exact (hp' hf).elim
   ·rw [hf];exact hc
 cases e with
 | exit i=>exact hq.elim
 | normal=>obtain ⟨l,h1,h2⟩:=hq;exact ⟨n,_,_,key h1 (.inl rfl),h2⟩
 | ret=>obtain ⟨l,h1,h2⟩:=hq;exact ⟨n,_,_,key h1 (.inr rfl),h2⟩
structure mZ {α:Type} (C:α->List AV) (sz:Nat):Prop where
 len:∀ x,(C x).length=sz
 one:∀ x,aW (C x)=true
 bD:∀ x,AV.aR 0 (C x)=true
theorem gk {α:Type} {C:α->List AV} (h:∀ x,AV.aR 0 (C x)=true):∀ l:List α,AV.bO 0 (l.map C)=true
 | []=>rfl
 | x::l=>by simp [AV.bO,h x,gk h l]
theorem E4 {xs ys:List AV} (h1:AV.aR 0 xs=true) (h2:AV.aR 0 ys=true):AV.aR 0 (xs++ys)=true:=by
 induction xs with
 | nil=>exact h2
 | cons x xs ih=>simp only [AV.aR,za0,zaM] at h1 ⊢;exact ⟨h1.1,ih h1.2⟩
theorem je {d:Nat} {H:List Obj} {v:AV} (h:v.bD 0=true):pk d H v=some v:=by
 cases d<;>(unfold pk;rw [if_pos (by exact h)])
theorem tR {d:Nat} {H:List Obj}:∀ {xs:List AV},AV.aR 0 xs=true->ey (pk d H) xs=some xs
 | [],_=>rfl
 | x::xs,h=>by simp only [AV.aR,za0] at h;simp [ey,je h.1,tR h.2]
theorem tc {α:Type} {C:α->List AV} {d:Nat} {H:List Obj} (h:∀ x,AV.aR 0 (C x)=true):∀ l:List α,gB (pk d H) (l.map C)=some (l.map C)
 | []=>rfl
 | x::l=>by simp [gB,tR (h x),tc h l]
theorem D7:∀ (l m:List Bool),l.length=m.length->bI (List.replicate l.length .bool) (l.map AV.bool) (m.map AV.bool)=some (l==m)
 | [],[],_=>rfl
 | x::l,y::m,h=>by
  have:=D7 l m (by simpa using h);simp only [zaK,zbG,za5,bI,dj,this];rfl
theorem D8 (k:IntKind):∀ (l m:List Int),l.length=m.length->bI (List.replicate l.length (.int k)) (l.map (AV.int k)) (m.map (AV.int k))=some (l==m)
 | [],[],_=>rfl
 | x::l,y::m,h=>by
  have:=D8 k l m (by simpa using h);simp only [zaK,zbG,za5,bI,dj,this,and_self,if_true];rfl
theorem qe {α:Type} {C:α->List AV} {c1:α->AV} (hC:∀ x,C x=[c1 x]):∀ (n:Nat) (l:List α),n<=l.length->chunks 1 n (l.map c1)=(l.take n).map C
 | 0,_,_=>by simp [chunks]
 | n+1,[],h=>by simp at h
 | n+1,x::l,h=>by
  have:=qe hC n l (by simpa using h);simp only [za5,chunks,zbZ,hC,List.take_zero,List.drop_succ_cons,zaW,this]
theorem I0 {α:Type} {C:α->List AV} {n:Nat} (hC:∀ a,(C a).length=n):∀ (l:List α) (k:Nat) (hk:k < l.length),k*n+n<=((l.map C).flatten).length/\(((l.map C).flatten.drop (k*n)).take n)=C l[k]
 | x::l,0,_=>by
  simp only [za5,zb,za8,Nat.zero_mul,zaW,zaF,hC x];refine ⟨by omega,?_⟩;rw [List.take_append_of_le_length (by rw [hC x];exact za7 _),zah (by rw [hC x];exact za7 _)]
 | x::l,k+1,hk=>by
  obtain ⟨h1,h2⟩:=I0 hC l k (by simpa using hk);have e:(k+1)*n=n+k*n:=by rw [Nat.succ_mul,Nat.add_comm]
  simp only [za5,zb,za8,zbQ,hC x,e];refine ⟨by omega,?_⟩;have d1:(C x++(List.map C l).flatten).drop n=(List.map C l).flatten:=List.drop_left' (hC x);rw [<-zbP,d1];exact h2
def WD (E:Env) (hp:Nat->Bool) (b0:Nat) (os:List (Nat×bH)) (t:T) (H:List Obj) (K:T->List Obj->List FP->Prop):Prop:=
 ∃ n t' H' fs,gD E.aF (kh E.fns (ak E hp n)) b0 os t H=some (t',H',fs)/\K t' H' fs
theorem Xr {b0:Nat} {K:T->List Obj->List FP->Prop} (h:K t H []):WD E hp b0 [] t H K:=⟨0,t,H,[],rfl,h⟩
theorem G2:∀ {x:AV},x.bD 0=true->jH x=[]:=by
 intro x h
 cases x<;>first | rfl | simp [AV.bD] at h
theorem uC:∀ {xs:List AV},AV.aR 0 xs=true->xs.flatMap jH=[]
 | [],_=>rfl
 | x::xs,h=>by
  simp only [AV.aR,za0] at h;simp only [zb0,G2 h.1,uC h.2,zbm]
theorem Km:∀ {x:AV},x.bD 0=true->refs x=[]:=by
 intro x h
 cases x<;>first | rfl | exact uC h | simp [AV.bD] at h
theorem yx:∀ {xs:List AV},AV.aR 0 xs=true->xs.flatMap refs=[]
 | [],_=>rfl
 | x::xs,h=>by
  simp only [AV.aR,za0] at h;simp only [zb0,Km h.1,yx h.2,zbm]
theorem B7 {pl f:Nat} {args:List RX} {ys:List AV} (h:args.map (ga E.aF t)=ys) (hb:AV.aR 0 ys=true):mU (ga E.aF t) pl (.call f args)={ all:=false }:=by
 subst h;simp only [mU,yx hb]
def CU {α:Type} (C:α->List AV):Option (List α)->AV
 | none=> .bF
 | some l=> .ro (l.map C)
end
def Fin (rs:List (Sum Nat (Nat×Nat×Bool))) (r:AV) (s:ST):Prop:=∃ l,bQ rs s=some l/\pack s.H (oneOf l)=some r
section
variable {E:Env} {hp:Nat->Bool}
theorem qx {xs ys:List AV} (h1:aW xs=true) (h2:aW ys=true):aW (xs++ys)=true:=by
 induction xs with
 | nil=>exact h2
 | cons x xs ih=>simp only [aW,za0,zaM] at h1 ⊢;exact ⟨h1.1,ih h1.2⟩
end
end Go.Am.As
end
section
namespace oe
open Go hiding Obj mark
open Go.Pl Go.Am Go.Am.As
inductive Ty where
 | int (k:IntKind)
 | bool
 | str
 | list (t:Ty)
 | kA (t:Ty)
 | st (i:Nat)
 | arr (n:Nat) (t:Ty)
 | ptr (t:Ty)
 | dO (t:Ty)
 deriving DecidableEq,Inhabited
def Ty.D (G:Nat->Type):Ty->Type
 | int _=>Int
 | bool=>Bool
 | str=>List UInt8
 | list t=>List (t.D G)
 | kA t=>Option (List (t.D G))
 | st i=>G i
 | arr n t=>eB n (t.D G)
 | ptr t=>t.D G
 | dO t=>Option (t.D G)
inductive TV (G:Nat->Type) where
 | int (k:IntKind) (n:Int)
 | bool (b:Bool)
 | str (s:List UInt8)
 | aQ (t:Ty) (l:List (t.D G))
 | gr (t:Ty) (l:Option (List (t.D G)))
 | o4 (es:List (List (TV G)))
 | agg (l:List (TV G))
 | aY (l:List (TV G))
 | bR (l:List (TV G))
 | fn (f:Nat) (l:List (TV G))
 | po (id o:Nat)
 | own (id:Nat)
 | pe (id:Nat) (i:Int) (o:Nat)
 | pa (id sz:Nat) (i:Int) (o:Nat)
 | sa (id lo len n:Nat) (h:lo+len<=n)
 | arr (n:Nat) (t:Ty) (a:eB n (t.D G))
 | dO (t:Ty) (x:Option (t.D G))
 | raw (v:AV)
structure Ge (G:Nat->Type) where
 n:Nat->Nat
 enc:(i:Nat)->G i->List AV
 view:(i:Nat)->G i->List (TV G)
 mkv:(i:Nat)->List (TV G)->Option (G i)
inductive TO (G:Nat->Type) where
 | box (l:List (TV G))
 | aQ (fl:Fl) (t:Ty) (l:List (t.D G))
 | cQ (fl:Fl) (sz:Nat) (es:List (List (TV G)))
 | mix (fl:Fl) (t:Ty) (l:List (t.D G)) (es:List (List (TV G)))
 | arr (n:Nat) (t:Ty) (a:eB n (t.D G))
 | dead
 | ew
 | lp (s:Ls) (fi:Nat)
 | mg (l:List (List UInt8×Int))
 | yN (s:List UInt8) (p:Int)
 | imp (l:List Int)
abbrev C3:=List Nat×RC×RC
structure DS (G:Nat->Type) where
 sz:Nat
 sl:List (Nat×TV G)
 H:List (TO G)
 fr:List (Nat×List (Nat×TV G)×C3)
section
variable {G:Nat->Type}
def Ty.n (g:Ge G):Ty->Nat
 | .st i=>g.n i
 | .arr n t=>n*t.n g
 | _=>1
def FN {α:Type} (C:α->List AV):Option α->AV
 | none=> .gZ
 | some x=> .bR (C x)
theorem yB {α:Type} (C:α->List AV) (o:Option α):(FN C o).cells=[FN C o]:=by cases o<;>rfl
def enc (g:Ge G):(t:Ty)->t.D G->List AV
 | .int k,n=>[.int k n]
 | .bool,b=>[.bool b]
 | .str,s=>[.str s]
 | .list t,l=>[.ro (List.map (enc g t) l)]
 | .kA t,o=>[CU (enc g t) o]
 | .st i,x=>g.enc i x
 | .arr _ t,a=>(List.map (enc g t) a.1).flatten
 | .ptr t,x=>[.bR (enc g t x)]
 | .dO t,o=>[FN (enc g t) o]
def va (g:Ge G):(t:Ty)->t.D G->AV
 | .int k,n=> .int k n
 | .bool,b=> .bool b
 | .str,s=> .str s
 | .list t,l=> .ro (List.map (enc g t) l)
 | .kA t,o=>CU (enc g t) o
 | .st i,x=> .agg (g.enc i x)
 | .arr _ t,a=> .agg (List.map (enc g t) a.1).flatten
 | .ptr t,x=> .bR (enc g t x)
 | .dO t,o=>FN (enc g t) o
def TV.cells (g:Ge G):TV G->List (TV G)
 | .agg l=>l
 | .raw v=>v.cells.map .raw
 | .arr _ t a=>(List.map (enc g t) a.1).flatten.map .raw
 | v=>[v]
def view (g:Ge G):(t:Ty)->t.D G->TV G
 | .int k,n=> .int k n
 | .bool,b=> .bool b
 | .str,s=> .str s
 | .list t,l=> .aQ t l
 | .kA t,o=> .gr t o
 | .st i,x=> .agg (g.view i x)
 | .arr n t,a=> .arr n t a
 | .ptr t,x=> .bR ((view g t x).cells g)
 | .dO t,o=> .dO t o
mutual
def TV.av (g:Ge G) (ln:Nat->Nat):TV G->AV
 | .int k n=> .int k n
 | .bool b=> .bool b
 | .str s=> .str s
 | .aQ t l=> .ro (List.map (enc g t) l)
 | .gr t o=>CU (enc g t) o
 | .o4 es=> .ro (TV.cV g ln es)
 | .agg l=> .agg (TV.aP g ln l)
 | .aY l=> .aY (TV.aP g ln l)
 | .bR l=> .bR (TV.aP g ln l)
 | .fn f l=> .fn f (TV.aP g ln l)
 | .po id o=> .aJ id 1 0 o
 | .own id=> .own id (ln id) 0 (ln id)
 | .pe id i o=> .aJ id (ln id) i.toNat o
 | .pa id sz i o=> .aJ id 1 0 (i.toNat*sz+o)
 | .sa id lo len _ _=>if len=0 then .ro [] else .arr id 1 0 lo 1 len
 | .arr _ t a=> .agg (List.map (enc g t) a.1).flatten
 | .dO t o=>FN (enc g t) o
 | .raw v=>v
def TV.aP (g:Ge G) (ln:Nat->Nat):List (TV G)->List AV
 | []=>[]
 | x::xs=>x.av g ln::TV.aP g ln xs
def TV.cV (g:Ge G) (ln:Nat->Nat):List (List (TV G))->List (List AV)
 | []=>[]
 | x::xs=>TV.aP g ln x::TV.cV g ln xs
end
structure Ge.Ok (g:Ge G):Prop where
 ok:∀ i,mZ (g.enc i) (g.n i)
 view:∀ i x ln,TV.aP g ln (g.view i x)=g.enc i x
 mkv:∀ i l x ln,g.mkv i l=some x->TV.aP g ln l=g.enc i x
theorem bV (g:Ge G) (ln:Nat->Nat):∀ l:List (TV G),TV.aP g ln l=l.map (TV.av g ln)
 | []=>rfl
 | x::l=>by rw [TV.aP,bV g ln l];rfl
theorem bu (g:Ge G) (ln:Nat->Nat):∀ l:List (List (TV G)),TV.cV g ln l=l.map (TV.aP g ln)
 | []=>rfl
 | x::l=>by rw [TV.cV,bu g ln l];rfl
theorem dy (g:Ge G) (ln:Nat->Nat) (l:List (TV G)):(TV.aP g ln l).length=l.length:=by rw [bV];simp
theorem qx:∀ {l m:List AV},aW l=true->aW m=true->aW (l++m)=true
 | [],_,_,h=>h
 | x::l,m,h,h'=>by
  simp only [aW,za0,zaM] at h ⊢;exact ⟨h.1,qx h.2 h'⟩
theorem cT {g:Ge G} (hg:g.Ok):∀ t:Ty,mZ (enc g t) (t.n g)
 | .int _=>⟨fun _=>rfl,fun _=>rfl,fun _=>rfl⟩
 | .bool=>⟨fun _=>rfl,fun _=>rfl,fun _=>rfl⟩
 | .str=>⟨fun _=>rfl,fun _=>rfl,fun _=>rfl⟩
 | .list _=>⟨fun _=>rfl,fun _=>rfl,fun _=>rfl⟩
 | .kA _=>⟨fun _=>rfl,fun x=>by cases x<;>rfl,fun x=>by cases x<;>rfl⟩
 | .st i=>hg.ok i
 | .ptr _=>⟨fun _=>rfl,fun _=>rfl,fun _=>rfl⟩
 | .dO _=>⟨fun _=>rfl,fun x=>by cases x<;>rfl,fun x=>by cases x<;>rfl⟩
 | .arr n t=>by
  have ih:=cT hg t;refine ⟨fun a=>?_,fun a=>?_,fun a=>?_⟩
  ·have:∀ l:List (t.D G),(List.map (enc g t) l).flatten.length=l.length*t.n g:=by
    intro l;induction l with
    | nil=>simp
    | cons x l Zb=>simp only [za5,zb,za8,Zb,ih.len,zaK,Nat.succ_mul];omega
   show (List.map (enc g t) a.1).flatten.length=_;rw [this,a.2];rfl
  ·show aW (List.map (enc g t) a.1).flatten=true;induction a.1 with
   | nil=>rfl
   | cons x l Zb=>rw [za5,zb];exact qx (ih.one x) Zb
  ·show AV.aR 0 (List.map (enc g t) a.1).flatten=true;induction a.1 with
   | nil=>rfl
   | cons x l Zb=>rw [za5,zb];exact E4 (ih.bD x) Zb
theorem vt (g:Ge G) (ln:Nat->Nat) (l:List AV):TV.aP g ln (l.map .raw)=l:=by
 rw [bV];induction l with
 | nil=>rfl
 | cons x l ih=>simp only [za5,TV.av,zaL,true_and];exact ih
theorem yC {α:Type} (C:α->List AV) (o:Option (List α)):(CU C o).cells=[CU C o]:=by cases o<;>rfl
theorem dn (g:Ge G) (ln:Nat->Nat) (v:TV G):(v.av g ln).cells=TV.aP g ln (v.cells g):=by
 cases v with
 | raw v=>exact (vt g ln _).symm
 | gr t o=>exact yC _ o
 | dO t o=>exact yB _ o
 | arr n t a=>exact (vt g ln _).symm
 | sa id lo len=>simp only [TV.av,TV.cells,TV.aP];split<;>rfl
 | _=>rfl
theorem gM (g:Ge G):∀ (t:Ty) (x:t.D G),(va g t x).cells=enc g t x
 | .int _,_ | .bool,_ | .str,_ | .list _,_=>rfl
 | .kA _,o=>yC _ o
 | .dO _,o=>yB _ o
 | .st _,_ | .arr _ _,_ | .ptr _,_=>rfl
theorem vi {g:Ge G} (hg:g.Ok) (ln:Nat->Nat):∀ (t:Ty) (x:t.D G),(view g t x).av g ln=va g t x
 | .int _,_ | .bool,_ | .str,_ | .list _,_ | .kA _,_ | .arr _ _,_ | .dO _,_=>rfl
 | .st i,x=>congrArg AV.agg (hg.view i x ln)
 | .ptr t,x=>congrArg AV.bR ((dn g ln (view g t x)).symm.trans ((congrArg AV.cells (vi hg ln t x)).trans (gM g t x)))
theorem gJ {g:Ge G} (hg:g.Ok) (ln:Nat->Nat) (t:Ty) (x:t.D G):TV.aP g ln ((view g t x).cells g)=enc g t x:=by
 rw [<-dn,vi hg,gM]
def A4 {α β:Type} (f:α->Option β):List α->Option (List β)
 | []=>some []
 | x::xs=>match f x with
  | some y=>(match A4 f xs with | some ys=>some (y::ys) | none=>none)
  | none=>none
def qI (t:Ty) (cs:List (TV G)):TV G:=match t with
 | .st _=> .agg cs
 | .arr _ _=> .agg cs
 | _=>match cs with
  | [v]=>v
  | _=> .raw .any
def asI (k:IntKind):TV G->Option Int
 | .int k' n=>if k=k' then some n else none
 | _=>none
def asB:TV G->Option Bool
 | .bool b=>some b
 | _=>none
def asS:TV G->Option (List UInt8)
 | .str b=>some b
 | _=>none
def YJ (t:Ty) (f:List (TV G)->Option (t.D G)):TV G->Option (List (t.D G))
 | .aQ u l=>if h:u=t then some (h▸l) else none
 | .o4 es=>A4 f es
 | _=>none
def aeZ {α:Type}:AV->Option (Option α)
 | .bF=>some none
 | _=>none
def asO (t:Ty):TV G->Option (Option (List (t.D G)))
 | .gr u l=>if h:u=t then some (h▸l) else none
 | .aQ u l=>if h:u=t then some (some (h▸l)) else none
 | .raw a=>aeZ a
 | _=>none
def asA {α:Type} (f:List (TV G)->Option α):TV G->Option α
 | .agg l=>f l
 | _=>none
def X5 (n:Nat) (t:Ty) (f:TV G->Option (t.D G)):TV G->Option (eB n (t.D G))
 | .arr m u a=>if h:m=n/\u=t then some (h.1▸h.2▸a) else none
 | .agg l=>(match A4 f l with
  | some m=>if h:m.length=n then some ⟨m,h⟩ else none
  | none=>none)
 | _=>none
def asP {α:Type} (f:List (TV G)->Option α):TV G->Option α
 | .bR l=>f l
 | _=>none
def abI {α:Type}:AV->Option (Option α)
 | .gZ=>some none
 | _=>none
def X6 (t:Ty) (f:List (TV G)->Option (t.D G)):TV G->Option (Option (t.D G))
 | .dO u x=>if h:u=t then some (h▸x) else none
 | .bR l=>(match f l with | some x=>some (some x) | none=>none)
 | .raw a=>abI a
 | _=>none
def yK (g:Ge G):(t:Ty)->TV G->Option (t.D G)
 | .int k=>asI k
 | .bool=>asB
 | .str=>asS
 | .list t=>YJ t fun cs=>yK g t (qI t cs)
 | .kA t=>asO t
 | .st i=>asA (g.mkv i)
 | .arr n t=>X5 n t fun v=>yK g t (qI t [v])
 | .ptr t=>asP fun cs=>yK g t (qI t cs)
 | .dO t=>X6 t fun cs=>yK g t (qI t cs)
theorem No {k:IntKind} {v:TV G} {x:Int} (h:asI k v=some x):v= .int k x:=by
 cases v with
 | int k' n=>
  unfold asI at h;dsimp only at h;split at h
  ·rename_i e;injection h with h;subst h;subst e;rfl
  ·cases h
 | _=>cases h
theorem Np {v:TV G} {x:Bool} (h:asB v=some x):v= .bool x:=by
 cases v with
 | bool b=>injection h with h;subst h;rfl
 | _=>cases h
theorem Nq {v:TV G} {x:List UInt8} (h:asS v=some x):v= .str x:=by
 cases v with
 | str b=>injection h with h;subst h;rfl
 | _=>cases h
theorem Nr {t:Ty} {f:List (TV G)->Option (t.D G)} {v:TV G} {x:List (t.D G)} (h:YJ t f v=some x):v= .aQ t x\/∃ es,v= .o4 es/\A4 f es=some x:=by
 cases v with
 | aQ u l=>
  unfold YJ at h;dsimp only at h;split at h
  ·rename_i e;subst e;injection h with h;subst h;exact .inl rfl
  ·cases h
 | o4 es=>exact .inr ⟨es,rfl,h⟩
 | _=>cases h
theorem Ns {t:Ty} {v:TV G} {x:Option (List (t.D G))} (h:asO t v=some x):v= .gr t x\/(∃ l,v= .aQ t l/\x=some l)\/(v= .raw .bF/\x=none):=by
 cases v with
 | gr u l=>
  unfold asO at h;dsimp only at h;split at h
  ·rename_i e;subst e;injection h with h;subst h;exact .inl rfl
  ·cases h
 | aQ u l=>
  unfold asO at h;dsimp only at h;split at h
  ·rename_i e;subst e;injection h with h;subst h;exact .inr (.inl ⟨l,rfl,rfl⟩)
  ·cases h
 | raw a=>
  cases a with
  | bF=>injection h with h;subst h;exact .inr (.inr ⟨rfl,rfl⟩)
  | _=>cases h
 | _=>cases h
theorem XL {α:Type} {f:List (TV G)->Option α} {v:TV G} {x:α} (h:asA f v=some x):∃ l,v= .agg l/\f l=some x:=by
 cases v with
 | agg l=>exact ⟨l,rfl,h⟩
 | _=>cases h
theorem vc {α β γ:Type} {f:α->Option β} {C:β->γ} {c:α->γ} (h:∀ x y,f x=some y->c x=C y):∀ {l:List α} {m:List β},A4 f l=some m->l.map c=m.map C
 | [],m,e=>by simp only [A4,za2] at e;subst e;rfl
 | x::l,m,e=>by
  rw [A4] at e;split at e
  case h_2=>cases e
  rename_i y hy;split at e
  case h_2=>cases e
  rename_i ys hys;injection e with e;subst e
  simp only [za5,h _ _ hy,vc h hys]
theorem XM {n:Nat} {t:Ty} {f:TV G->Option (t.D G)} {v:TV G} {x:eB n (t.D G)} (h:X5 n t f v=some x):v= .arr n t x\/∃ l,v= .agg l/\A4 f l=some x.1:=by
 cases v with
 | arr m u a=>
  unfold X5 at h;dsimp only at h;split at h
  ·rename_i e;obtain ⟨rfl,rfl⟩:=e;injection h with h;subst h;exact .inl rfl
  ·cases h
 | agg l=>
  unfold X5 at h;dsimp only at h;split at h
  case h_2=>cases h
  rename_i m hm;split at h
  case isFalse=>cases h
  injection h with h;subst h
  exact .inr ⟨l,rfl,hm⟩
 | _=>cases h
theorem Nt {α:Type} {f:List (TV G)->Option α} {v:TV G} {x:α} (h:asP f v=some x):∃ l,v= .bR l/\f l=some x:=by
 cases v with
 | bR l=>exact ⟨l,rfl,h⟩
 | _=>cases h
theorem Nu {t:Ty} {f:List (TV G)->Option (t.D G)} {v:TV G} {x:Option (t.D G)} (h:X6 t f v=some x):v= .dO t x\/(∃ l y,v= .bR l/\f l=some y/\x=some y)\/(v= .raw .gZ/\x=none):=by
 cases v with
 | dO u y=>
  unfold X6 at h;dsimp only at h;split at h
  ·rename_i e;subst e;injection h with h;subst h;exact .inl rfl
  ·cases h
 | bR l=>
  unfold X6 at h;dsimp only at h;split at h
  case h_2=>cases h
  rename_i y hy;injection h with h
  exact .inr (.inl ⟨l,y,rfl,hy,h.symm⟩)
 | raw a=>
  cases a with
  | gZ=>injection h with h;subst h;exact .inr (.inr ⟨rfl,rfl⟩)
  | _=>cases h
 | _=>cases h
theorem fT {t:Ty} {cs:List (TV G)} {g:Ge G} {x:t.D G} (h:yK g t (qI t cs)=some x):(qI t cs).cells g=cs:=by
 cases t with
 | st i=>rfl
 | int k=>
  match cs,h with
  | [v],h=>have:=No (v:=v) h;subst this;rfl
  | [],h=>cases h
  | _::_::_,h=>cases h
 | bool=>
  match cs,h with
  | [v],h=>have:=Np (v:=v) h;subst this;rfl
  | [],h=>cases h
  | _::_::_,h=>cases h
 | str=>
  match cs,h with
  | [v],h=>have:=Nq (v:=v) h;subst this;rfl
  | [],h=>cases h
  | _::_::_,h=>cases h
 | list t=>
  match cs,h with
  | [v],h=>
   rcases Nr (v:=v) h with e | ⟨es,e,_⟩<;>(subst e;rfl)
  | [],h=>cases h
  | _::_::_,h=>cases h
 | kA t=>
  match cs,h with
  | [v],h=>
   rcases Ns (v:=v) h with e | ⟨es,e,_⟩ | ⟨e,_⟩<;>(subst e;rfl)
  | [],h=>cases h
  | _::_::_,h=>cases h
 | arr n t=>rfl
 | ptr t=>
  match cs,h with
  | [v],h=>obtain ⟨l,e,_⟩:=Nt (v:=v) h;subst e;rfl
  | [],h=>cases h
  | _::_::_,h=>cases h
 | dO t=>
  match cs,h with
  | [v],h=>
   rcases Nu (v:=v) h with e | ⟨l,y,e,_⟩ | ⟨e,_⟩<;>(subst e;rfl)
  | [],h=>cases h
  | _::_::_,h=>cases h
theorem EA {g:Ge G} {ln:Nat->Nat} {t:Ty} {cs:List (TV G)} {x:t.D G} (h:yK g t (qI t cs)=some x) (h1:(qI t cs).av g ln=va g t x):TV.aP g ln cs=enc g t x:=by
 rw [<-gM,<-h1,dn,fT h]
theorem mB {g:Ge G} (hg:g.Ok) (ln:Nat->Nat):∀ (t:Ty) (v:TV G) (x:t.D G),yK g t v=some x->v.av g ln=va g t x
 | .int k,v,x,h=>by have:=No (x:=x) h;subst this;rfl
 | .bool,v,x,h=>by have:=Np (x:=x) h;subst this;rfl
 | .str,v,x,h=>by have:=Nq (x:=x) h;subst this;rfl
 | .list t,v,x,h=>by
  rcases Nr (x:=x) h with e | ⟨es,e,h⟩
  ·subst e;rfl
  ·subst e;show AV.ro _=AV.ro _;rw [bu,vc (c:=TV.aP g ln) (C:=enc g t) (fun cs y hy=>?_) h];have h1:=mB hg ln t _ _ hy;rw [<-fT hy,<-dn,h1,gM]
 | .kA t,v,x,h=>by
  rcases Ns (x:=x) h with e | ⟨l,e,e2⟩ | ⟨e,e2⟩<;>(subst e;try subst e2)<;>rfl
 | .st i,v,x,h=>by
  obtain ⟨l,e,h⟩:=XL (x:=x) h;subst e;exact congrArg AV.agg (hg.mkv i l x ln h)
 | .ptr t,v,x,h=>by
  obtain ⟨l,e,h'⟩:=Nt (x:=x) h;subst e;exact congrArg AV.bR (EA h' (mB hg ln t _ _ h'))
 | .dO t,v,x,h=>by
  rcases Nu (x:=x) h with e | ⟨l,y,e,h',e2⟩ | ⟨e,e2⟩
  ·subst e;rfl
  ·subst e;subst e2;exact congrArg AV.bR (EA h' (mB hg ln t _ _ h'))
  ·subst e;subst e2;rfl
 | .arr n t,v,x,h=>by
  rcases XM (x:=x) h with e | ⟨l,e,h'⟩
  ·subst e;rfl
  ·subst e;show AV.agg _=AV.agg _;congr 1;have h2:l.map (fun v=>TV.aP g ln [v])=List.map (enc g t) x.1:=vc (f:=fun v=>yK g t (qI t [v])) (fun v y hy=>by
    have h1:=mB hg ln t _ _ hy;have h3:=fT hy;show TV.aP g ln [v]=_;rw [<-h3,<-dn,h1,gM]) h'
   rw [<-h2,bV];induction l with
   | nil=>rfl
   | cons y l _=>
    have:∀ l:List (TV G),l.map (TV.av g ln)=(l.map fun v=>TV.aP g ln [v]).flatten:=by
     intro l;induction l with
     | nil=>rfl
     | cons y l ih=>rw [za5,za5,zb,<-ih];rfl
    exact this _
theorem Cd {g:Ge G} (hg:g.Ok) {ln:Nat->Nat} {t:Ty} {v:TV G} {x:t.D G} (h:yK g t v=some x):TV.aP g ln (v.cells g)=enc g t x:=by
 rw [<-dn,mB hg ln t v x h,gM]
def TO.len:TO G->Nat
 | .aQ _ _ l=>l.length
 | .cQ _ _ es=>es.length
 | .mix _ _ l es=>l.length+es.length
 | _=>0
def ju (H:List (TO G)) (id:Nat):Nat:=match H[id]? with
 | some o=>o.len
 | none=>0
def dJ (g:Ge G) (ln:Nat->Nat) (l:List (Nat×TV G)):List (Nat×AV):=l.map fun p=>(p.1,p.2.av g ln)
def TO.av (g:Ge G) (ln:Nat->Nat) (F:List (T×C3)):TO G->Obj
 | .box l=> .live .norm l.length [TV.aP g ln l]
 | .aQ fl t l=> .live fl (t.n g) (l.map (enc g t))
 | .cQ fl sz es=> .live fl sz (TV.cV g ln es)
 | .mix fl t l es=> .live fl (t.n g) (l.map (enc g t)++TV.cV g ln es)
 | .arr n t a=> .live .norm (n*t.n g) [(List.map (enc g t) a.1).flatten]
 | .dead=> .dead
 | .ew=> .ew
 | .lp s fi=>(match F[fi]? with | some f=> .lp s f.1.toL f.2.1 f.2.2.1 f.2.2.2 | none=> .dead)
 | .mg l=> .mp (l.map fun p=>(.str p.1,.int .i64 p.2))
 | .yN s p=> .it s p.toNat
 | .imp l=> .mp (l.map fun n=>(.int .i64 n,.bool true))
def DS.ln (s:DS G):Nat->Nat:=ju s.H
def DS.FR (g:Ge G) (s:DS G):List (T×C3):=s.fr.map fun f=>(⟨f.1,dJ g s.ln f.2.1⟩,f.2.2)
def DS.tm (g:Ge G) (s:DS G):T:=⟨s.sz,dJ g s.ln s.sl⟩
def DS.Hv (g:Ge G) (s:DS G):List Obj:=s.H.map (TO.av g s.ln (s.FR g))
def DS.st (g:Ge G) (s:DS G):ST:=⟨s.tm g,s.Hv g⟩
def FY:List (Nat×TV G)->Nat->TV G
 | [],_=> .raw .any
 | (k,v)::r,n=>if k=n then v else FY r n
def LC:List (Nat×TV G)->Nat->TV G->List (Nat×TV G)
 | [],n,x=>[(n,x)]
 | (k,v)::r,n,x=>if k=n then (n,x)::r else if n < k then (n,x)::(k,v)::r else (k,v)::LC r n x
def FK:List (Nat×TV G)->Nat->List (Nat×TV G)
 | [],_=>[]
 | (k,v)::r,n=>if k=n then FK r n else (k,v)::FK r n
theorem Cf (g:Ge G) (ln:Nat->Nat):∀ (l:List (Nat×TV G)) (n:Nat),T.eY (dJ g ln l) n=(FY l n).av g ln
 | [],_=>rfl
 | (k,v)::r,n=>by
  show (if k=n then _ else T.eY (dJ g ln r) n)=_;rw [Cf g ln r n,FY];split<;>rfl
theorem Cg (g:Ge G) (ln:Nat->Nat):∀ (l:List (Nat×TV G)) (n:Nat) (x:TV G),T.sJ (dJ g ln l) n (x.av g ln)=dJ g ln (LC l n x)
 | [],_,_=>rfl
 | (k,v)::r,n,x=>by
  show (if k=n then _ else if n < k then _ else (k,v.av g ln)::T.sJ (dJ g ln r) n _)=_;rw [Cg g ln r n x,LC];split
  ·rfl
  split<;>rfl
theorem Iu (g:Ge G) (ln:Nat->Nat):∀ (l:List (Nat×TV G)) (n:Nat),T.nh (dJ g ln l) n=dJ g ln (FK l n)
 | [],_=>rfl
 | (k,v)::r,n=>by
  show (if k=n then T.nh (dJ g ln r) n else (k,v.av g ln)::T.nh (dJ g ln r) n)=_;rw [Iu g ln r n,FK];split<;>rfl
def DS.get (s:DS G) (n:Nat):TV G:=FY s.sl n
def DS.put (s:DS G) (n:Nat) (v:TV G):DS G:=if n < s.sz then ⟨s.sz,LC s.sl n v,s.H,s.fr⟩ else s
def DS.cS (s:DS G) (d:Option Nat) (v:TV G):DS G:=match d with
 | some d=>s.put d v
 | none=>s
theorem DS.ij (g:Ge G) (s:DS G) (n:Nat):(s.tm g).get n=(s.get n).av g s.ln:=Cf g s.ln s.sl n
theorem DS.Un (s:DS G) (n:Nat) (v:TV G):(s.put n v).H=s.H:=by unfold DS.put;split<;>rfl
theorem DS.XN (s:DS G) (n:Nat) (v:TV G):(s.put n v).fr=s.fr:=by unfold DS.put;split<;>rfl
theorem DS.sP (g:Ge G) (s:DS G) (n:Nat) (v:TV G):(s.put n v).FR g=s.FR g:=by unfold DS.FR DS.ln;rw [DS.Un,DS.XN]
theorem DS.wF (g:Ge G) (s:DS G) (n:Nat) (v:TV G):(s.put n v).Hv g=s.Hv g:=by unfold DS.Hv;rw [DS.sP];unfold DS.ln;rw [DS.Un]
theorem DS.sQ (g:Ge G) (s:DS G) (n:Nat) (v:TV G):(s.put n v).tm g=(s.tm g).put n (v.av g s.ln):=by
 unfold DS.put As.T.put;show _=if n < s.sz then _ else _
 split
 ·show (⟨_,_⟩:T)=⟨_,_⟩;rw [show (s.tm g).l=dJ g s.ln s.sl from rfl,Cg];rfl
 ·rfl
theorem DS.rI (g:Ge G) (s:DS G) (d:Option Nat) (v:TV G):(s.cS d v).Hv g=s.Hv g:=by cases d with | none=>rfl | some d=>exact DS.wF g s d v
theorem DS.ov (g:Ge G) (s:DS G) (d:Option Nat) (v:TV G):(s.cS d v).FR g=s.FR g:=by cases d with | none=>rfl | some d=>exact DS.sP g s d v
theorem DS.ow (g:Ge G) (s:DS G) (d:Option Nat) (v:TV G):(s.cS d v).tm g=As.cS (s.tm g) d (v.av g s.ln):=by cases d with | none=>rfl | some d=>exact DS.sQ g s d v
mutual
def uX:AV->TV G
 | .int k n=> .int k n
 | .bool b=> .bool b
 | .str s=> .str s
 | .agg l=> .agg (iI l)
 | .fn f l=> .fn f (iI l)
 | .bR l=> .bR (iI l)
 | .aY l=> .aY (iI l)
 | v=> .raw v
def iI:List AV->List (TV G)
 | []=>[]
 | x::xs=>uX x::iI xs
end
mutual
theorem vE (g:Ge G) (ln:Nat->Nat):∀ v:AV,(uX v:TV G).av g ln=v
 | .int k n=>rfl
 | .bool b=>rfl
 | .str s=>rfl
 | .agg l=>by rw [uX,TV.av,gL g ln l]
 | .fn f l=>by rw [uX,TV.av,gL g ln l]
 | .bR l=>by rw [uX,TV.av,gL g ln l]
 | .aY l=>by rw [uX,TV.av,gL g ln l]
 | .any | .gZ | .bF | .jw | .nu | .pO | .fA _ | .mp _ | .qB _ | .ro _ | .own .. | .aJ .. | .eD .. | .arr ..=>rfl
theorem gL (g:Ge G) (ln:Nat->Nat):∀ l:List AV,TV.aP g ln (iI l:List (TV G))=l
 | []=>rfl
 | x::l=>by rw [iI,TV.aP,vE g ln x,gL g ln l]
end
def DS.rx (gl:Nat->List AV) (s:DS G):RX->TV G
 | .t n=>s.get n
 | .c v=>uX v
 | .g n=> .bR (iI (gl n))
theorem DS.mX (g:Ge G) (gl:Nat->List AV) (s:DS G):∀ x:RX,ga gl (s.tm g) x=(s.rx gl x).av g s.ln
 | .t n=>DS.ij g s n
 | .c v=>(vE g s.ln v).symm
 | .g n=>by show AV.bR _=AV.bR _;rw [gL]
theorem DS.gH (g:Ge G) (gl:Nat->List AV) (s:DS G) (l:List RX):l.map (ga gl (s.tm g))=TV.aP g s.ln (l.map (s.rx gl)):=by
 rw [bV,zb6];exact zaR fun x _=>DS.mX g gl s x
mutual
def TV.jb (id n:Nat):TV G->TV G
 | .o4 es=> .o4 (TV.kN id n es)
 | .agg l=> .agg (TV.jN id n l)
 | .aY l=> .aY (TV.jN id n l)
 | .bR l=> .bR (TV.jN id n l)
 | .fn f l=> .fn f (TV.jN id n l)
 | .own j=>if j=id then .raw (.own j n 0 n) else .own j
 | .pe j i o=>if j=id then .raw (.aJ j n i.toNat o) else .pe j i o
 | v=>v
def TV.jN (id n:Nat):List (TV G)->List (TV G)
 | []=>[]
 | x::xs=>x.jb id n::TV.jN id n xs
def TV.kN (id n:Nat):List (List (TV G))->List (List (TV G))
 | []=>[]
 | x::xs=>TV.jN id n x::TV.kN id n xs
end
mutual
theorem sn {g:Ge G} {ln cc:Nat->Nat} {id:Nat} (h:∀ j,j≠id->cc j=ln j):∀ v:TV G,(v.jb id (ln id)).av g cc=v.av g ln
 | .int _ _ | .bool _ | .str _ | .aQ _ _ | .gr _ _ | .po _ _ | .pa .. | .sa .. | .arr .. | .dO .. | .raw _=>rfl
 | .o4 es=>by rw [TV.jb,TV.av,TV.av,mM h es]
 | .agg l=>by rw [TV.jb,TV.av,TV.av,iy h l]
 | .aY l=>by rw [TV.jb,TV.av,TV.av,iy h l]
 | .bR l=>by rw [TV.jb,TV.av,TV.av,iy h l]
 | .fn f l=>by rw [TV.jb,TV.av,TV.av,iy h l]
 | .own j=>by
  rw [TV.jb];split
  ·rename_i e;subst e;rfl
  ·rename_i e;rw [TV.av,TV.av,h j e]
 | .pe j i o=>by
  rw [TV.jb];split
  ·rename_i e;subst e;rfl
  ·rename_i e;rw [TV.av,TV.av,h j e]
theorem iy {g:Ge G} {ln cc:Nat->Nat} {id:Nat} (h:∀ j,j≠id->cc j=ln j):∀ l:List (TV G),TV.aP g cc (TV.jN id (ln id) l)=TV.aP g ln l
 | []=>rfl
 | x::l=>by rw [TV.jN,TV.aP,TV.aP,sn h x,iy h l]
theorem mM {g:Ge G} {ln cc:Nat->Nat} {id:Nat} (h:∀ j,j≠id->cc j=ln j):∀ l:List (List (TV G)),TV.cV g cc (TV.kN id (ln id) l)=TV.cV g ln l
 | []=>rfl
 | x::l=>by rw [TV.kN,TV.cV,TV.cV,iy h x,mM h l]
end
def qc (id n:Nat) (l:List (Nat×TV G)):List (Nat×TV G):=l.map fun p=>(p.1,p.2.jb id n)
def TO.jb (id n:Nat):TO G->TO G
 | .box l=> .box (TV.jN id n l)
 | .cQ fl sz es=> .cQ fl sz (TV.kN id n es)
 | .mix fl t l es=> .mix fl t l (TV.kN id n es)
 | o=>o
def DS.jb (s:DS G) (id:Nat):DS G:=
 let n:=s.ln id
 ⟨s.sz,qc id n s.sl,s.H.map (TO.jb id n),s.fr.map fun f=>(f.1,qc id n f.2.1,f.2.2)⟩
theorem yD (id n:Nat):∀ l:List (TV G),(TV.jN id n l).length=l.length
 | []=>rfl
 | x::l=>by rw [TV.jN,zaK,yD id n l];rfl
theorem oa (id n:Nat):∀ l:List (List (TV G)),(TV.kN id n l).length=l.length
 | []=>rfl
 | x::l=>by rw [TV.kN,zaK,oa id n l];rfl
theorem AF {g:Ge G} {ln cc:Nat->Nat} {id:Nat} (h:∀ j,j≠id->cc j=ln j) (l:List (Nat×TV G)):dJ g cc (qc id (ln id) l)=dJ g ln l:=by
 unfold dJ qc;rw [zb6];exact zaR fun p _=>by show (p.1,_)=(p.1,_);rw [sn h]
theorem TO.sn {g:Ge G} {ln cc:Nat->Nat} {F:List (T×C3)} {id:Nat} (h:∀ j,j≠id->cc j=ln j) (o:TO G):(o.jb id (ln id)).av g cc F=o.av g ln F:=by
 cases o with
 | box l=>show Obj.live _ _ _=Obj.live _ _ _;rw [yD,iy h]
 | cQ fl sz es=>show Obj.live _ _ _=Obj.live _ _ _;rw [mM h]
 | mix fl t l es=>show Obj.live _ _ _=Obj.live _ _ _;rw [mM h]
 | _=>rfl
theorem TO.Ku (id n:Nat) (o:TO G):(o.jb id n).len=o.len:=by
 cases o with
 | cQ fl sz es=>exact oa id n es
 | mix fl t l es=>show l.length+_=l.length+_;rw [oa]
 | _=>rfl
def DS.cY (s:DS G) (id:Nat) (o:TO G):DS G:=
 let n:=s.ln id
 ⟨s.sz,qc id n s.sl,(s.H.map (TO.jb id n)).set id o,s.fr.map fun f=>(f.1,qc id n f.2.1,f.2.2)⟩
theorem rJ (s:DS G) (id:Nat) (o:TO G):∀ j,j≠id->(s.cY id o).ln j=s.ln j:=by
 intro j hj;unfold DS.ln ju DS.cY;dsimp only;rw [za6 (Ne.symm hj),zav]
 cases s.H[j]? with
 | none=>rfl
 | some o=>exact TO.Ku _ _ o
theorem Ce (g:Ge G) (s:DS G) (id:Nat) (o:TO G):(s.cY id o).FR g=s.FR g:=by
 unfold DS.FR;show (s.fr.map _).map _=_;rw [zb6];refine zaR fun f _=>?_
 show ((⟨f.1,_⟩:T),f.2.2)=(⟨f.1,_⟩,f.2.2);rw [AF (rJ s id o)]
theorem Nl (g:Ge G) (s:DS G) (id:Nat) (o:TO G):(s.cY id o).tm g=s.tm g:=by
 show (⟨s.sz,_⟩:T)=⟨s.sz,_⟩;rw [show (s.cY id o).sl=qc id (s.ln id) s.sl from rfl,AF (rJ s id o)]
theorem Ji (g:Ge G) (s:DS G) (id:Nat) (o:TO G):(s.cY id o).Hv g=(s.Hv g).set id (o.av g (s.cY id o).ln (s.FR g)):=by
 unfold DS.Hv;rw [Ce];show ((s.H.map _).set id o).map _=_;rw [zbS,zb6];congr 1;exact zaR fun o' _=>TO.sn (rJ s id o) o'
def DS.gV (s:DS G) (id:Nat) (o:TO G):DS G:=⟨s.sz,s.sl,s.H.set id o,s.fr⟩
theorem vD {s:DS G} {id:Nat} {o:TO G} (h:o.len=s.ln id):(s.gV id o).ln=s.ln:=by
 funext j
 unfold DS.ln ju DS.gV;by_cases e:j=id
 ·subst e;dsimp only;unfold DS.ln ju at h;by_cases hl:j < s.H.length
  ·rw [zaG hl];exact h
  ·rw [List.set_eq_of_length_le (by omega)]
 ·rw [za6 (Ne.symm e)]
theorem Cc {g:Ge G} {s:DS G} {id:Nat} {o:TO G} (h:o.len=s.ln id):(s.gV id o).FR g=s.FR g:=by
 unfold DS.FR;rw [vD h];rfl
theorem Nk {g:Ge G} {s:DS G} {id:Nat} {o:TO G} (h:o.len=s.ln id):(s.gV id o).tm g=s.tm g:=by
 unfold DS.tm;rw [vD h];rfl
theorem Jh {g:Ge G} {s:DS G} {id:Nat} {o:TO G} (h:o.len=s.ln id):(s.gV id o).Hv g=(s.Hv g).set id (o.av g s.ln (s.FR g)):=by
 unfold DS.Hv;rw [Cc h,vD h];show (s.H.set id o).map _=_;rw [zbS]
mutual
def TV.Dh (id:Nat):TV G->Bool
 | .o4 es=>TV.jf id es
 | .agg l=>TV.mE id l
 | .aY l=>TV.mE id l
 | .bR l=>TV.mE id l
 | .fn _ l=>TV.mE id l
 | .own j=> !Nat.beq j id
 | .pe j _ _=> !Nat.beq j id
 | _=>true
def TV.mE (id:Nat):List (TV G)->Bool
 | []=>true
 | x::xs=>x.Dh id&&TV.mE id xs
def TV.jf (id:Nat):List (List (TV G))->Bool
 | []=>true
 | x::xs=>TV.mE id x&&TV.jf id xs
end
mutual
theorem EB {g:Ge G} {ln cc:Nat->Nat} {id:Nat} (h:∀ j,j≠id->cc j=ln j):∀ v:TV G,v.Dh id=true->v.av g cc=v.av g ln
 | .int _ _,_ | .bool _,_ | .str _,_ | .aQ _ _,_ | .gr _ _,_ | .po _ _,_ | .pa ..,_ | .sa ..,_ | .arr ..,_ | .dO ..,_ | .raw _,_=>rfl
 | .o4 es,e=>by rw [TV.av,TV.av,fY h es e]
 | .agg l,e=>by rw [TV.av,TV.av,iz h l e]
 | .aY l,e=>by rw [TV.av,TV.av,iz h l e]
 | .bR l,e=>by rw [TV.av,TV.av,iz h l e]
 | .fn f l,e=>by rw [TV.av,TV.av,iz h l e]
 | .own j,e=>by
  have hj:j≠id:=by
   rintro rfl;simp [TV.Dh] at e
  rw [TV.av,TV.av,h j hj]
 | .pe j i o,e=>by
  have hj:j≠id:=by
   rintro rfl;simp [TV.Dh] at e
  rw [TV.av,TV.av,h j hj]
theorem iz {g:Ge G} {ln cc:Nat->Nat} {id:Nat} (h:∀ j,j≠id->cc j=ln j):∀ l:List (TV G),TV.mE id l=true->TV.aP g cc l=TV.aP g ln l
 | [],_=>rfl
 | x::l,e=>by
  simp only [TV.mE,za0] at e;rw [TV.aP,TV.aP,EB h x e.1,iz h l e.2]
theorem fY {g:Ge G} {ln cc:Nat->Nat} {id:Nat} (h:∀ j,j≠id->cc j=ln j):∀ l:List (List (TV G)),TV.jf id l=true->TV.cV g cc l=TV.cV g ln l
 | [],_=>rfl
 | x::l,e=>by
  simp only [TV.jf,za0] at e;rw [TV.cV,TV.cV,iz h x e.1,fY h l e.2]
end
def qd (id:Nat):List (Nat×TV G)->Bool
 | []=>true
 | p::r=>p.2.Dh id&&qd id r
def jO (id:Nat):List (TO G)->Bool
 | []=>true
 | .box l::r=>TV.mE id l&&jO id r
 | .cQ _ _ es::r=>TV.jf id es&&jO id r
 | .mix _ _ _ es::r=>TV.jf id es&&jO id r
 | _::r=>jO id r
def sZ (id:Nat):List (Nat×List (Nat×TV G)×C3)->Bool
 | []=>true
 | f::r=>qd id f.2.1&&sZ id r
theorem tZ {g:Ge G} {ln cc:Nat->Nat} {id:Nat} (h:∀ j,j≠id->cc j=ln j):∀ l:List (Nat×TV G),qd id l=true->dJ g cc l=dJ g ln l
 | [],_=>rfl
 | p::l,e=>by
  simp only [qd,za0] at e;show (p.1,_)::dJ g cc l=(p.1,_)::dJ g ln l;rw [EB h _ e.1,tZ h l e.2]
theorem mb {g:Ge G} {ln cc:Nat->Nat} {F:List (T×C3)} {id:Nat} (h:∀ j,j≠id->cc j=ln j):∀ l:List (TO G),jO id l=true->l.map (TO.av g cc F)=l.map (TO.av g ln F)
 | [],_=>rfl
 | .box l::r,e=>by
  simp only [jO,za0] at e;show Obj.live _ _ _::r.map _=Obj.live _ _ _::r.map _;rw [iz h _ e.1,mb h r e.2]
 | .cQ _ _ es::r,e=>by
  simp only [jO,za0] at e;show Obj.live _ _ _::r.map _=Obj.live _ _ _::r.map _;rw [fY h _ e.1,mb h r e.2]
 | .mix _ _ _ es::r,e=>by
  simp only [jO,za0] at e;show Obj.live _ _ _::r.map _=Obj.live _ _ _::r.map _;rw [fY h _ e.1,mb h r e.2]
 | .aQ ..::r,e | .arr ..::r,e | .dead::r,e | .ew::r,e | .lp ..::r,e | .mg ..::r,e | .yN ..::r,e | .imp ..::r,e=>by
  show _::r.map _=_::r.map _;rw [mb h r e];rfl
theorem AG {g:Ge G} {ln cc:Nat->Nat} {id:Nat} (h:∀ j,j≠id->cc j=ln j):∀ l:List (Nat×List (Nat×TV G)×C3),sZ id l=true->(l.map fun f=>((⟨f.1,dJ g cc f.2.1⟩:T),f.2.2))=l.map fun f=>(⟨f.1,dJ g ln f.2.1⟩,f.2.2)
 | [],_=>rfl
 | f::r,e=>by
  simp only [sZ,za0] at e;show ((⟨f.1,_⟩:T),f.2.2)::r.map _=(⟨f.1,_⟩,f.2.2)::r.map _;rw [tZ h _ e.1,AG h r e.2]
def DS.dL (s:DS G) (pl:Nat) (o:TO G):DS G:=⟨s.sz,s.sl,if pl < s.H.length then s.H.set pl o else s.H++[o],s.fr⟩
def DS.fits (s:DS G) (pl:Nat) (o:TO G):Bool:=Nat.ble pl s.H.length&&match o with
 | .aQ ..=>qd pl s.sl&&(jO pl s.H&&sZ pl s.fr)
 | .cQ _ _ es=>qd pl s.sl&&(jO pl s.H&&sZ pl s.fr)&&TV.jf pl es
 | .mix ..=>false
 | _=>ju s.H pl==0
theorem Cb {s:DS G} {pl:Nat} (hp:pl<=s.H.length) (o:TO G):∀ j,j≠pl->(s.dL pl o).ln j=s.ln j:=by
 intro j hj;unfold DS.ln ju DS.dL;dsimp only;by_cases hl:pl < s.H.length
 ·rw [if_pos hl,za6 (Ne.symm hj)]
 ·rw [if_neg hl];by_cases h:j < s.H.length
  ·rw [zai h]
  ·have e1:(s.H++[o])[j]?=none:=zao (by simp;omega);have e2:s.H[j]?=none:=zao (by omega);rw [e1,e2]
theorem xo {s:DS G} {pl:Nat} (hp:pl<=s.H.length) {o:TO G} (h:o.len=0) (h0:ju s.H pl=0):(s.dL pl o).ln=s.ln:=by
 funext j
 by_cases hj:j=pl
 ·subst hj;show ju _ j=ju s.H j;rw [h0];unfold ju DS.dL;dsimp only;by_cases hl:j < s.H.length
  ·rw [if_pos hl,zaG hl];exact h
  ·rw [if_neg hl];have:j=s.H.length:=by omega
   subst this;rw [zaj (by omega)];simp [h]
 ·exact Cb hp o j hj
theorem fq {g:Ge G} {s:DS G} {pl:Nat} {o:TO G} (h:s.fits pl o=true):(s.dL pl o).tm g=s.tm g/\(s.dL pl o).FR g=s.FR g/\(s.dL pl o).Hv g=putObj (s.Hv g) pl (o.av g (s.dL pl o).ln (s.FR g)):=by
 unfold DS.fits at h;rw [za0] at h;have hp:pl<=s.H.length:=zaB h.1;have k1:=Cb hp o;have k2:(s.dL pl o).ln=s.ln\/(qd pl s.sl&&(jO pl s.H&&sZ pl s.fr))=true:=by
  have h2:=h.2
  cases o with
  | aQ fl t l=>exact .inr h2
  | cQ fl sz es=>exact .inr ((za0 _ _).mp h2).1
  | mix fl t l es=>cases h2
  | _=>exact .inl (xo hp rfl (by simpa using h2))
 have hT:(s.dL pl o).tm g=s.tm g:=by
  show (⟨s.sz,dJ g _ s.sl⟩:T)=⟨s.sz,dJ g _ s.sl⟩;rcases k2 with e | e
  ·rw [e]
  ·simp only [za0] at e;rw [tZ k1 _ e.1]
 have hF:(s.dL pl o).FR g=s.FR g:=by
  unfold DS.FR;rcases k2 with e | e
  ·rw [e];rfl
  ·simp only [za0] at e;exact AG k1 _ e.2.2
 refine ⟨hT,hF,?_⟩;have hH:s.H.map (TO.av g (s.dL pl o).ln (s.FR g))=s.H.map (TO.av g s.ln (s.FR g)):=by
  rcases k2 with e | e
  ·rw [e]
  ·simp only [za0] at e;exact mb k1 _ e.2.1
 unfold DS.Hv;rw [hF];show (if pl < s.H.length then s.H.set pl o else s.H++[o]).map _=putObj _ _ _;unfold putObj;rw [zaa];split
 ·rw [zbS,hH]
 ·rw [zal,hH];rfl
theorem fG (g:Ge G) (s:DS G):(s.Hv g).length=s.H.length:=by simp [DS.Hv]
theorem bl {g:Ge G} {s:DS G} {id:Nat} {o:TO G} (h:s.H[id]?=some o):(s.Hv g)[id]?=some (o.av g s.ln (s.FR g)):=by
 unfold DS.Hv;rw [zav,h];rfl
end
end oe
end
