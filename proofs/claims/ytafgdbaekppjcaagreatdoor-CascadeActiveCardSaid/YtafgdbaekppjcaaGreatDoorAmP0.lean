/- Parts of my machine and its laws, joined: AmP0 AmWr DnA. No condition. -/
import Derived.Test.YtafgdbaekppjcaaGreatDoorAmWp
import Derived.KernelRfl
set_option linter.unusedSectionVars false
set_option linter.unusedVariables false
set_option linter.unusedSimpArgs false
section
namespace Go.Pl
def aI (k:IntKind) (x y:Int):Int:=k.wrap (x+y)
def cB (k:IntKind) (x y:Int):Int:=k.wrap (x - y)
def cE (k:IntKind) (x y:Int):Int:=k.wrap (x*y)
def idx {α:Type} (l:List α) (i:Int):Option α:=if 0<=i then l[i.toNat]? else none
def cF {α:Type} (bytes:Nat) (l m:List α):Option (List α):=if (l.length+m.length)*bytes<=2 ^ 40/\l.length+m.length<=2 ^ 40 then some (l++m) else none
def sj {α:Type} (bytes:Nat) (n:Int) (z:α):Option (List α):=if 0<=n/\n*bytes<=2 ^ 40/\n<=2 ^ 40 then some (List.replicate n.toNat z) else none
def oS {α:Type} (l:List α) (lo hi:Option Int):Option (List α):=
 if 0<=lo.getD 0/\lo.getD 0<=hi.getD l.length/\hi.getD l.length<=l.length then some ((l.drop (lo.getD 0).toNat).take ((hi.getD l.length).toNat - (lo.getD 0).toNat)) else none
def Ie (k:IntKind) (x y:Int):Option Int:=if y=0 then none else some (k.wrap (x.tdiv y))
def mV (x y:Int):Option Int:=if y=0 then none else some (x.tmod y)
def Xj (k:IntKind) (x y:Int):Option Int:=if y < 0 then none else some (k.wrap (x*2 ^ (min y.toNat k.bits)))
def Xk (k:IntKind) (x y:Int):Option Int:=if y < 0 then none else some (x.fdiv (2 ^ (min y.toNat k.bits)))
def eY (k:IntKind) (x y:Int):Int:=k.wrap ((BitVec.ofInt k.bits x)&&& (BitVec.ofInt k.bits y)).toNat
def Sq (k:IntKind) (x y:Int):Int:=k.wrap ((BitVec.ofInt k.bits x)||| (BitVec.ofInt k.bits y)).toNat
def mX (x y:List UInt8):Option (List UInt8):=if x.length+y.length<=2 ^ 40 then some (x++y) else none
def aac (x y:Int):Int:=if y < x then y else x
def SP (x y:Int):Int:=if y > x then y else x
def aad {α:Type}:Option (List α)->Option Bool
 | none=>some true
 | some []=>none
 | some (_::_)=>some false
def Oc {α:Type} (bytes:Nat) (n:Int) (z:α):Option (List α):=if 0 < n/\n*bytes<=2 ^ 40/\n<=2 ^ 40 then some (List.replicate n.toNat z) else none
def Od {α:Type}:List α->Option Unit
 | []=>none
 | _::_=>some ()
def fh (n:Nat) (α:Type):Type:={ l:List α // l.length=n }
def fh.put {n:Nat} {α:Type} (a:fh n α) (i:Nat) (x:α):fh n α:=⟨a.1.set i x,by simp [a.2]⟩
def fh.rep (n:Nat) {α:Type} (x:α):fh n α:=⟨List.replicate n x,by simp⟩
theorem fh.len {n:Nat} {α:Type} (a:fh n α):a.1.length=n:=a.2
def fh.at {n:Nat} {α:Type} [Inhabited α] (a:fh n α) (k:Nat):α:=a.1.getD k default
def oT {n:Nat} {α:Type} (a:fh n α) (i:Int):Option α:=idx a.1 i
def ki {σ ρ:Type} (body:σ->Option (σ⊕ρ)):Nat->σ->Option ρ
 | 0,_=>none
 | n+1,s=>match body s with
  | none=>none
  | some (.inl s')=>ki body n s'
  | some (.inr r)=>some r
def fuel:Nat:=18446744073709551616
def iter {σ ρ:Type} (body:σ->Option (σ⊕ρ)) (s:σ):Option ρ:=ki body fuel s
theorem bind_some {α β:Type} {m:Option α} {f:α->Option β} {r:β} (h:m.bind f=some r):∃ v,m=some v/\f v=some r:=by
 cases m with
 | none=>simp at h
 | some v=>exact ⟨v,rfl,h⟩
theorem map_some {α β:Type} {m:Option α} {f:α->β} {r:β} (h:m.map f=some r):∃ v,m=some v/\f v=r:=by
 cases m with
 | none=>simp at h
 | some v=>exact ⟨v,rfl,by simpa using h⟩
theorem zz {σ ρ:Type} {body:σ->Option (σ⊕ρ)} (I:σ->Prop) (m:σ->Nat) (Q:ρ->Prop) {s:σ} (h0:I s) (hf:m s < fuel)
 (h:∀ s,I s->(∃ s',body s=some (.inl s')/\I s'/\m s' < m s)\/∃ r,body s=some (.inr r)/\Q r):∃ r,iter body s=some r/\Q r:=by
 have key:∀ n s,I s->m s < n->∃ r,ki body n s=some r/\Q r:=by
  intro n;induction n with
  | zero=>intro s _ hlt;omega
  | succ n ih=>
   intro s hi hlt;rcases h s hi with ⟨s',hb,hi',hm⟩ | ⟨r,hb,hq⟩
   ·obtain ⟨r,h1,h2⟩:=ih s' hi' (by omega);exact ⟨r,by rw [ki,hb];exact h1,h2⟩
   ·exact ⟨r,by rw [ki,hb],hq⟩
 exact key fuel s h0 hf
def F5 (x:List UInt8):List (List UInt8×Int)->Option Int
 | []=>none
 | p::r=>if x=p.1 then some p.2 else F5 x r
def Eu (x:List UInt8) (v:Int):List (List UInt8×Int)->List (List UInt8×Int)
 | []=>[(x,v)]
 | p::r=>if x=p.1 then (x,v)::r else p::Eu x v r
def sw (s:List UInt8) (p:Int):Int×Int:=((Utf8.decode ⟨s.toArray⟩ p.toNat).1,((p.toNat+(Utf8.decode ⟨s.toArray⟩ p.toNat).2:Nat):Int))
end Go.Pl
end
section
namespace Go.Am
abbrev AV.i (n:Int):AV:= .int .i64 n
abbrev AV.po (id o:Nat):AV:= .aA id 1 0 o
abbrev Obj.lv (n:Nat) (cs:List AV):Obj:= .live .norm n [cs]
end Go.Am
namespace Go.Am.As
open Go.Pl
def W (E:Env) (hp:Nat->Bool) (c:RC) (b:Nat) (N:ST->Prop) (X:Nat->ST->Prop) (R:ST->Prop) (s:ST):Prop:=
 WP E hp c b (fun e s'=>match e with | .normal=>N s' | .exit i=>X i s' | .ret=>R s') s
section
variable {E:Env} {hp:Nat->Bool} {b:Nat} {N:ST->Prop} {X:Nat->ST->Prop} {R:ST->Prop} {s:ST}
theorem W.mono {c:RC} {N' X' R'} (h:W E hp c b N X R s) (hn:∀ s,N s->N' s) (hx:∀ i s,X i s->X' i s) (hr:∀ s,R s->R' s):W E hp c b N' X' R' s:=
 WP.mono h fun e s' q=>by cases e with | normal=>exact hn _ q | exit i=>exact hx _ _ q | ret=>exact hr _ q
theorem qi {α:Type} {C:α->List AV} (h:∀ x,AV.aT 0 (C x)=true) (n:Nat):∀ l:List α,AV.bN n (l.map C)=true
 | []=>rfl
 | x::l=>by simp [AV.bN,gu (zaJ n) _ (h x),qi h n l]
variable {dr:Bool} {t:T} {H:List Obj} {K:T->List Obj->Prop}
variable {d:Option Nat} {g:Option (Nat×Bool)} {os:List bH}
theorem Vm {f:Nat} {xs:List AV} {K:AV->List Obj->Prop} {na nt:Nat} {rs:List (Sum Nat (Nat×Nat×Bool))} {body:RC} (hfn:E.fns f=some ⟨na,nt,rs,body⟩) (hf:hp f=true\/snaps H xs=none) (hn:xs.length=na) (hm:na<=nt)
 (h:WP E hp body H.length (fun e s'=>match e with | .exit _=>False | _=>∃ l,bP rs s'=some l/\K (oneOf l) s'.H) ⟨⟨nt,T.kf xs 0⟩,H⟩):WC E hp false f xs H K:=by
 obtain ⟨n,e,s',h,hq⟩:=h;have key:∀ {l:List AV},bP rs s'=some l->(e= .normal\/e= .ret)->bK (bif false then fun _=>false else hp) (j5 E.fns (ak E hp n)) (bif false then fun _ _ _=>none else kh E.fns (ak E hp n)) f xs H=some (oneOf l,s'.H):=by
  intro l hl he;have hc:kh E.fns (ak E hp n) f xs H=some (oneOf l,s'.H):=by
   simp only [kh,hfn,hn,hm,and_self,if_true];have hst:fm (⟨na,nt,rs,body⟩:RF) xs=⟨nt,T.kf xs 0⟩:=rfl;rw [hst,h];rcases he with rfl | rfl<;>simp only [hl]
  unfold bK;simp only [cond_false];by_cases hp':hp f=true
  ·rw [if_pos hp'];exact hc
  ·rw [if_neg hp'];rcases hf with hf | hf
   ·exact (hp' hf).elim
   ·rw [hf];exact hc
 cases e with
 | exit i=>exact hq.elim
 | normal=>obtain ⟨l,h1,h2⟩:=hq;exact ⟨n,_,_,key h1 (.inl rfl),h2⟩
 | ret=>obtain ⟨l,h1,h2⟩:=hq;exact ⟨n,_,_,key h1 (.inr rfl),h2⟩
structure mR {α:Type} (C:α->List AV) (sz:Nat):Prop where
 len:∀ x,(C x).length=sz
 one:∀ x,aV (C x)=true
 bp:∀ x,AV.aT 0 (C x)=true
theorem gw {α:Type} {C:α->List AV} (h:∀ x,AV.aT 0 (C x)=true):∀ l:List α,AV.bN 0 (l.map C)=true
 | []=>rfl
 | x::l=>by simp [AV.bN,h x,gw h l]
theorem D9 {xs ys:List AV} (h1:AV.aT 0 xs=true) (h2:AV.aT 0 ys=true):AV.aT 0 (xs++ys)=true:=by
 induction xs with
 | nil=>exact h2
 | cons x xs ih=>simp only [AV.aT,za0,zaH] at h1 ⊢;exact ⟨h1.1,ih h1.2⟩
theorem jd {d:Nat} {H:List Obj} {v:AV} (h:v.bp 0=true):pk d H v=some v:=by
 cases d<;>(unfold pk;rw [if_pos (by exact h)])
theorem tP {d:Nat} {H:List Obj}:∀ {xs:List AV},AV.aT 0 xs=true->fC (pk d H) xs=some xs
 | [],_=>rfl
 | x::xs,h=>by simp only [AV.aT,za0] at h;simp [fC,jd h.1,tP h.2]
theorem sX {α:Type} {C:α->List AV} {d:Nat} {H:List Obj} (h:∀ x,AV.aT 0 (C x)=true):∀ l:List α,gE (pk d H) (l.map C)=some (l.map C)
 | []=>rfl
 | x::l=>by simp [gE,tP (h x),sX h l]
theorem Dt:∀ (l m:List Bool),l.length=m.length->bI (List.replicate l.length .bool) (l.map AV.bool) (m.map AV.bool)=some (l==m)
 | [],[],_=>rfl
 | x::l,y::m,h=>by
  have:=Dt l m (by simpa using h);simp only [zaR,zbF,za5,bI,eI,this];rfl
theorem Du (k:IntKind):∀ (l m:List Int),l.length=m.length->bI (List.replicate l.length (.int k)) (l.map (AV.int k)) (m.map (AV.int k))=some (l==m)
 | [],[],_=>rfl
 | x::l,y::m,h=>by
  have:=Du k l m (by simpa using h);simp only [zaR,zbF,za5,bI,eI,this,and_self,if_true];rfl
theorem xP {α:Type} {C:α->List AV} {c1:α->AV} (hC:∀ x,C x=[c1 x]):∀ (n:Nat) (l:List α),n<=l.length->chunks 1 n (l.map c1)=(l.take n).map C
 | 0,_,_=>by simp [chunks]
 | n+1,[],h=>by simp at h
 | n+1,x::l,h=>by
  have:=xP hC n l (by simpa using h);simp only [za5,chunks,zbY,hC,List.take_zero,List.drop_succ_cons,zaQ,this]
theorem Hy {α:Type} {C:α->List AV} {n:Nat} (hC:∀ a,(C a).length=n):∀ (l:List α) (k:Nat) (hk:k < l.length),k*n+n<=((l.map C).flatten).length/\(((l.map C).flatten.drop (k*n)).take n)=C l[k]
 | x::l,0,_=>by
  simp only [za5,zaS,za9,Nat.zero_mul,zaQ,zaF,hC x];refine ⟨by omega,?_⟩;rw [List.take_append_of_le_length (by rw [hC x];exact za6 _),zad (by rw [hC x];exact za6 _)]
 | x::l,k+1,hk=>by
  obtain ⟨h1,h2⟩:=Hy hC l k (by simpa using hk);have e:(k+1)*n=n+k*n:=by rw [Nat.succ_mul,Nat.add_comm]
  simp only [za5,zaS,za9,zbh,hC x,e];refine ⟨by omega,?_⟩;have d1:(C x++(List.map C l).flatten).drop n=(List.map C l).flatten:=List.drop_left' (hC x);rw [<-zbG,d1];exact h2
def WD (E:Env) (hp:Nat->Bool) (b0:Nat) (os:List (Nat×bH)) (t:T) (H:List Obj) (K:T->List Obj->List FP->Prop):Prop:=
 ∃ n t' H' fs,gF E.aJ (j5 E.fns (ak E hp n)) b0 os t H=some (t',H',fs)/\K t' H' fs
theorem Vk {b0:Nat} {K:T->List Obj->List FP->Prop} (h:K t H []):WD E hp b0 [] t H K:=⟨0,t,H,[],rfl,h⟩
theorem I4:∀ {x:AV},x.bp 0=true->refs x=[]:=by
 intro x h
 cases x<;>first | rfl | simp [AV.bp] at h
theorem yh:∀ {xs:List AV},AV.aT 0 xs=true->xs.flatMap refs=[]
 | [],_=>rfl
 | x::xs,h=>by
  simp only [AV.aT,za0] at h;simp only [zbR,I4 h.1,yh h.2,zbo]
theorem BB {pl f:Nat} {args:List RX} {ys:List AV} (h:args.map (gq E.aJ t)=ys) (hb:AV.aT 0 ys=true):mN (gq E.aJ t) pl (.call f args)={ all:=false }:=by
 subst h;simp only [mN,yh hb]
def Cc {α:Type} (C:α->List AV):Option (List α)->AV
 | none=> .bD
 | some l=> .ro (l.map C)
end
def Fin (rs:List (Sum Nat (Nat×Nat×Bool))) (r:AV) (s:ST):Prop:=∃ l,bP rs s=some l/\pack s.H (oneOf l)=some r
section
variable {E:Env} {hp:Nat->Bool}
theorem qp {xs ys:List AV} (h1:aV xs=true) (h2:aV ys=true):aV (xs++ys)=true:=by
 induction xs with
 | nil=>exact h2
 | cons x xs ih=>simp only [aV,za0,zaH] at h1 ⊢;exact ⟨h1.1,ih h1.2⟩
end
end Go.Am.As
end
section
namespace oZ
open Go hiding Obj mark
open Go.Pl Go.Am Go.Am.As
inductive Ty where
 | int (k:IntKind)
 | bool
 | str
 | list (t:Ty)
 | kq (t:Ty)
 | st (i:Nat)
 | arr (n:Nat) (t:Ty)
 | ptr (t:Ty)
 | eg (t:Ty)
 deriving DecidableEq,Inhabited
def Ty.D (G:Nat->Type):Ty->Type
 | int _=>Int
 | bool=>Bool
 | str=>List UInt8
 | list t=>List (t.D G)
 | kq t=>Option (List (t.D G))
 | st i=>G i
 | arr n t=>fh n (t.D G)
 | ptr t=>t.D G
 | eg t=>Option (t.D G)
inductive TV (G:Nat->Type) where
 | int (k:IntKind) (n:Int)
 | bool (b:Bool)
 | str (s:List UInt8)
 | aL (t:Ty) (l:List (t.D G))
 | gC (t:Ty) (l:Option (List (t.D G)))
 | qx (es:List (List (TV G)))
 | agg (l:List (TV G))
 | bl (l:List (TV G))
 | bZ (l:List (TV G))
 | fn (f:Nat) (l:List (TV G))
 | po (id o:Nat)
 | own (id:Nat)
 | pe (id:Nat) (i:Int) (o:Nat)
 | pa (id sz:Nat) (i:Int) (o:Nat)
 | sa (id lo len n:Nat) (h:lo+len<=n)
 | arr (n:Nat) (t:Ty) (a:fh n (t.D G))
 | eg (t:Ty) (x:Option (t.D G))
 | raw (v:AV)
structure Ge (G:Nat->Type) where
 n:Nat->Nat
 enc:(i:Nat)->G i->List AV
 view:(i:Nat)->G i->List (TV G)
 mkv:(i:Nat)->List (TV G)->Option (G i)
inductive TO (G:Nat->Type) where
 | box (l:List (TV G))
 | aL (fl:Fl) (t:Ty) (l:List (t.D G))
 | cX (fl:Fl) (sz:Nat) (es:List (List (TV G)))
 | mix (fl:Fl) (t:Ty) (l:List (t.D G)) (es:List (List (TV G)))
 | arr (n:Nat) (t:Ty) (a:fh n (t.D G))
 | dead
 | iA
 | lp (s:Ls) (fi:Nat)
 | mT (l:List (List UInt8×Int))
 | yE (s:List UInt8) (p:Int)
abbrev C3:=List Nat×RC×RC
structure DS (G:Nat->Type) where
 sz:Nat
 sl:List (Nat×TV G)
 H:List (TO G)
 fr:List (Nat×List (Nat×TV G)×C3)
section
variable {G:Nat->Type}
def Ty.n (g:Ge G):Ty->Nat
 | .st i=>g.n i
 | .arr n t=>n*t.n g
 | _=>1
def EP {α:Type} (C:α->List AV):Option α->AV
 | none=> .g7
 | some x=> .bZ (C x)
theorem yq {α:Type} (C:α->List AV) (o:Option α):(EP C o).cells=[EP C o]:=by cases o<;>rfl
def enc (g:Ge G):(t:Ty)->t.D G->List AV
 | .int k,n=>[.int k n]
 | .bool,b=>[.bool b]
 | .str,s=>[.str s]
 | .list t,l=>[.ro (List.map (enc g t) l)]
 | .kq t,o=>[Cc (enc g t) o]
 | .st i,x=>g.enc i x
 | .arr _ t,a=>(List.map (enc g t) a.1).flatten
 | .ptr t,x=>[.bZ (enc g t x)]
 | .eg t,o=>[EP (enc g t) o]
def va (g:Ge G):(t:Ty)->t.D G->AV
 | .int k,n=> .int k n
 | .bool,b=> .bool b
 | .str,s=> .str s
 | .list t,l=> .ro (List.map (enc g t) l)
 | .kq t,o=>Cc (enc g t) o
 | .st i,x=> .agg (g.enc i x)
 | .arr _ t,a=> .agg (List.map (enc g t) a.1).flatten
 | .ptr t,x=> .bZ (enc g t x)
 | .eg t,o=>EP (enc g t) o
def TV.cells (g:Ge G):TV G->List (TV G)
 | .agg l=>l
 | .raw v=>v.cells.map .raw
 | .arr _ t a=>(List.map (enc g t) a.1).flatten.map .raw
 | v=>[v]
def view (g:Ge G):(t:Ty)->t.D G->TV G
 | .int k,n=> .int k n
 | .bool,b=> .bool b
 | .str,s=> .str s
 | .list t,l=> .aL t l
 | .kq t,o=> .gC t o
 | .st i,x=> .agg (g.view i x)
 | .arr n t,a=> .arr n t a
 | .ptr t,x=> .bZ ((view g t x).cells g)
 | .eg t,o=> .eg t o
mutual
def TV.av (g:Ge G) (ln:Nat->Nat):TV G->AV
 | .int k n=> .int k n
 | .bool b=> .bool b
 | .str s=> .str s
 | .aL t l=> .ro (List.map (enc g t) l)
 | .gC t o=>Cc (enc g t) o
 | .qx es=> .ro (TV.dc g ln es)
 | .agg l=> .agg (TV.aS g ln l)
 | .bl l=> .bl (TV.aS g ln l)
 | .bZ l=> .bZ (TV.aS g ln l)
 | .fn f l=> .fn f (TV.aS g ln l)
 | .po id o=> .aA id 1 0 o
 | .own id=> .own id (ln id) 0 (ln id)
 | .pe id i o=> .aA id (ln id) i.toNat o
 | .pa id sz i o=> .aA id 1 0 (i.toNat*sz+o)
 | .sa id lo len _ _=>if len=0 then .ro [] else .arr id 1 0 lo 1 len
 | .arr _ t a=> .agg (List.map (enc g t) a.1).flatten
 | .eg t o=>EP (enc g t) o
 | .raw v=>v
def TV.aS (g:Ge G) (ln:Nat->Nat):List (TV G)->List AV
 | []=>[]
 | x::xs=>x.av g ln::TV.aS g ln xs
def TV.dc (g:Ge G) (ln:Nat->Nat):List (List (TV G))->List (List AV)
 | []=>[]
 | x::xs=>TV.aS g ln x::TV.dc g ln xs
end
structure Ge.Ok (g:Ge G):Prop where
 ok:∀ i,mR (g.enc i) (g.n i)
 view:∀ i x ln,TV.aS g ln (g.view i x)=g.enc i x
 mkv:∀ i l x ln,g.mkv i l=some x->TV.aS g ln l=g.enc i x
theorem bU (g:Ge G) (ln:Nat->Nat):∀ l:List (TV G),TV.aS g ln l=l.map (TV.av g ln)
 | []=>rfl
 | x::l=>by rw [TV.aS,bU g ln l];rfl
theorem br (g:Ge G) (ln:Nat->Nat):∀ l:List (List (TV G)),TV.dc g ln l=l.map (TV.aS g ln)
 | []=>rfl
 | x::l=>by rw [TV.dc,br g ln l];rfl
theorem dH (g:Ge G) (ln:Nat->Nat) (l:List (TV G)):(TV.aS g ln l).length=l.length:=by rw [bU];simp
theorem qp:∀ {l m:List AV},aV l=true->aV m=true->aV (l++m)=true
 | [],_,_,h=>h
 | x::l,m,h,h'=>by
  simp only [aV,za0,zaH] at h ⊢;exact ⟨h.1,qp h.2 h'⟩
theorem c6 {g:Ge G} (hg:g.Ok):∀ t:Ty,mR (enc g t) (t.n g)
 | .int _=>⟨fun _=>rfl,fun _=>rfl,fun _=>rfl⟩
 | .bool=>⟨fun _=>rfl,fun _=>rfl,fun _=>rfl⟩
 | .str=>⟨fun _=>rfl,fun _=>rfl,fun _=>rfl⟩
 | .list _=>⟨fun _=>rfl,fun _=>rfl,fun _=>rfl⟩
 | .kq _=>⟨fun _=>rfl,fun x=>by cases x<;>rfl,fun x=>by cases x<;>rfl⟩
 | .st i=>hg.ok i
 | .ptr _=>⟨fun _=>rfl,fun _=>rfl,fun _=>rfl⟩
 | .eg _=>⟨fun _=>rfl,fun x=>by cases x<;>rfl,fun x=>by cases x<;>rfl⟩
 | .arr n t=>by
  have ih:=c6 hg t;refine ⟨fun a=>?_,fun a=>?_,fun a=>?_⟩
  ·have:∀ l:List (t.D G),(List.map (enc g t) l).flatten.length=l.length*t.n g:=by
    intro l;induction l with
    | nil=>simp
    | cons x l Xg=>simp only [za5,zaS,za9,Xg,ih.len,zaR,Nat.succ_mul];omega
   show (List.map (enc g t) a.1).flatten.length=_;rw [this,a.2];rfl
  ·show aV (List.map (enc g t) a.1).flatten=true;induction a.1 with
   | nil=>rfl
   | cons x l Xg=>rw [za5,zaS];exact qp (ih.one x) Xg
  ·show AV.aT 0 (List.map (enc g t) a.1).flatten=true;induction a.1 with
   | nil=>rfl
   | cons x l Xg=>rw [za5,zaS];exact D9 (ih.bp x) Xg
theorem vq (g:Ge G) (ln:Nat->Nat) (l:List AV):TV.aS g ln (l.map .raw)=l:=by
 rw [bU];induction l with
 | nil=>rfl
 | cons x l ih=>simp only [za5,TV.av,zaE,true_and];exact ih
theorem yu {α:Type} (C:α->List AV) (o:Option (List α)):(Cc C o).cells=[Cc C o]:=by cases o<;>rfl
theorem dD (g:Ge G) (ln:Nat->Nat) (v:TV G):(v.av g ln).cells=TV.aS g ln (v.cells g):=by
 cases v with
 | raw v=>exact (vq g ln _).symm
 | gC t o=>exact yu _ o
 | eg t o=>exact yq _ o
 | arr n t a=>exact (vq g ln _).symm
 | sa id lo len=>simp only [TV.av,TV.cells,TV.aS];split<;>rfl
 | _=>rfl
theorem gQ (g:Ge G):∀ (t:Ty) (x:t.D G),(va g t x).cells=enc g t x
 | .int _,_ | .bool,_ | .str,_ | .list _,_=>rfl
 | .kq _,o=>yu _ o
 | .eg _,o=>yq _ o
 | .st _,_ | .arr _ _,_ | .ptr _,_=>rfl
theorem vg {g:Ge G} (hg:g.Ok) (ln:Nat->Nat):∀ (t:Ty) (x:t.D G),(view g t x).av g ln=va g t x
 | .int _,_ | .bool,_ | .str,_ | .list _,_ | .kq _,_ | .arr _ _,_ | .eg _,_=>rfl
 | .st i,x=>congrArg AV.agg (hg.view i x ln)
 | .ptr t,x=>congrArg AV.bZ ((dD g ln (view g t x)).symm.trans ((congrArg AV.cells (vg hg ln t x)).trans (gQ g t x)))
theorem gO {g:Ge G} (hg:g.Ok) (ln:Nat->Nat) (t:Ty) (x:t.D G):TV.aS g ln ((view g t x).cells g)=enc g t x:=by
 rw [<-dD,vg hg,gQ]
def AG {α β:Type} (f:α->Option β):List α->Option (List β)
 | []=>some []
 | x::xs=>match f x with
  | some y=>(match AG f xs with | some ys=>some (y::ys) | none=>none)
  | none=>none
def qD (t:Ty) (cs:List (TV G)):TV G:=match t with
 | .st _=> .agg cs
 | .arr _ _=> .agg cs
 | _=>match cs with
  | [v]=>v
  | _=> .raw .any
def asI (k:IntKind):TV G->Option Int
 | .int k' n=>if k=k' then some n else none
 | _=>none
def asB:TV G->Option Bool
 | .bool b=>some b
 | _=>none
def asS:TV G->Option (List UInt8)
 | .str b=>some b
 | _=>none
def WY (t:Ty) (f:List (TV G)->Option (t.D G)):TV G->Option (List (t.D G))
 | .aL u l=>if h:u=t then some (h▸l) else none
 | .qx es=>AG f es
 | _=>none
def aeF {α:Type}:AV->Option (Option α)
 | .bD=>some none
 | _=>none
def asO (t:Ty):TV G->Option (Option (List (t.D G)))
 | .gC u l=>if h:u=t then some (h▸l) else none
 | .aL u l=>if h:u=t then some (some (h▸l)) else none
 | .raw a=>aeF a
 | _=>none
def asA {α:Type} (f:List (TV G)->Option α):TV G->Option α
 | .agg l=>f l
 | _=>none
def V8 (n:Nat) (t:Ty) (f:TV G->Option (t.D G)):TV G->Option (fh n (t.D G))
 | .arr m u a=>if h:m=n/\u=t then some (h.1▸h.2▸a) else none
 | .agg l=>(match AG f l with
  | some m=>if h:m.length=n then some ⟨m,h⟩ else none
  | none=>none)
 | _=>none
def asP {α:Type} (f:List (TV G)->Option α):TV G->Option α
 | .bZ l=>f l
 | _=>none
def ZR {α:Type}:AV->Option (Option α)
 | .g7=>some none
 | _=>none
def V9 (t:Ty) (f:List (TV G)->Option (t.D G)):TV G->Option (Option (t.D G))
 | .eg u x=>if h:u=t then some (h▸x) else none
 | .bZ l=>(match f l with | some x=>some (some x) | none=>none)
 | .raw a=>ZR a
 | _=>none
def yC (g:Ge G):(t:Ty)->TV G->Option (t.D G)
 | .int k=>asI k
 | .bool=>asB
 | .str=>asS
 | .list t=>WY t fun cs=>yC g t (qD t cs)
 | .kq t=>asO t
 | .st i=>asA (g.mkv i)
 | .arr n t=>V8 n t fun v=>yC g t (qD t [v])
 | .ptr t=>asP fun cs=>yC g t (qD t cs)
 | .eg t=>V9 t fun cs=>yC g t (qD t cs)
theorem LJ {k:IntKind} {v:TV G} {x:Int} (h:asI k v=some x):v= .int k x:=by
 cases v with
 | int k' n=>
  unfold asI at h;dsimp only at h;split at h
  ·rename_i e;injection h with h;subst h;subst e;rfl
  ·cases h
 | _=>cases h
theorem LL {v:TV G} {x:Bool} (h:asB v=some x):v= .bool x:=by
 cases v with
 | bool b=>injection h with h;subst h;rfl
 | _=>cases h
theorem LM {v:TV G} {x:List UInt8} (h:asS v=some x):v= .str x:=by
 cases v with
 | str b=>injection h with h;subst h;rfl
 | _=>cases h
theorem LN {t:Ty} {f:List (TV G)->Option (t.D G)} {v:TV G} {x:List (t.D G)} (h:WY t f v=some x):v= .aL t x\/∃ es,v= .qx es/\AG f es=some x:=by
 cases v with
 | aL u l=>
  unfold WY at h;dsimp only at h;split at h
  ·rename_i e;subst e;injection h with h;subst h;exact .inl rfl
  ·cases h
 | qx es=>exact .inr ⟨es,rfl,h⟩
 | _=>cases h
theorem LO {t:Ty} {v:TV G} {x:Option (List (t.D G))} (h:asO t v=some x):v= .gC t x\/(∃ l,v= .aL t l/\x=some l)\/(v= .raw .bD/\x=none):=by
 cases v with
 | gC u l=>
  unfold asO at h;dsimp only at h;split at h
  ·rename_i e;subst e;injection h with h;subst h;exact .inl rfl
  ·cases h
 | aL u l=>
  unfold asO at h;dsimp only at h;split at h
  ·rename_i e;subst e;injection h with h;subst h;exact .inr (.inl ⟨l,rfl,rfl⟩)
  ·cases h
 | raw a=>
  cases a with
  | bD=>injection h with h;subst h;exact .inr (.inr ⟨rfl,rfl⟩)
  | _=>cases h
 | _=>cases h
theorem VL {α:Type} {f:List (TV G)->Option α} {v:TV G} {x:α} (h:asA f v=some x):∃ l,v= .agg l/\f l=some x:=by
 cases v with
 | agg l=>exact ⟨l,rfl,h⟩
 | _=>cases h
theorem ve {α β γ:Type} {f:α->Option β} {C:β->γ} {c:α->γ} (h:∀ x y,f x=some y->c x=C y):∀ {l:List α} {m:List β},AG f l=some m->l.map c=m.map C
 | [],m,e=>by simp only [AG,za1] at e;subst e;rfl
 | x::l,m,e=>by
  rw [AG] at e;split at e
  case h_2=>cases e
  rename_i y hy;split at e
  case h_2=>cases e
  rename_i ys hys;injection e with e;subst e
  simp only [za5,h _ _ hy,ve h hys]
theorem VM {n:Nat} {t:Ty} {f:TV G->Option (t.D G)} {v:TV G} {x:fh n (t.D G)} (h:V8 n t f v=some x):v= .arr n t x\/∃ l,v= .agg l/\AG f l=some x.1:=by
 cases v with
 | arr m u a=>
  unfold V8 at h;dsimp only at h;split at h
  ·rename_i e;obtain ⟨rfl,rfl⟩:=e;injection h with h;subst h;exact .inl rfl
  ·cases h
 | agg l=>
  unfold V8 at h;dsimp only at h;split at h
  case h_2=>cases h
  rename_i m hm;split at h
  case isFalse=>cases h
  injection h with h;subst h
  exact .inr ⟨l,rfl,hm⟩
 | _=>cases h
theorem LP {α:Type} {f:List (TV G)->Option α} {v:TV G} {x:α} (h:asP f v=some x):∃ l,v= .bZ l/\f l=some x:=by
 cases v with
 | bZ l=>exact ⟨l,rfl,h⟩
 | _=>cases h
theorem LQ {t:Ty} {f:List (TV G)->Option (t.D G)} {v:TV G} {x:Option (t.D G)} (h:V9 t f v=some x):v= .eg t x\/(∃ l y,v= .bZ l/\f l=some y/\x=some y)\/(v= .raw .g7/\x=none):=by
 cases v with
 | eg u y=>
  unfold V9 at h;dsimp only at h;split at h
  ·rename_i e;subst e;injection h with h;subst h;exact .inl rfl
  ·cases h
 | bZ l=>
  unfold V9 at h;dsimp only at h;split at h
  case h_2=>cases h
  rename_i y hy;injection h with h
  exact .inr (.inl ⟨l,y,rfl,hy,h.symm⟩)
 | raw a=>
  cases a with
  | g7=>injection h with h;subst h;exact .inr (.inr ⟨rfl,rfl⟩)
  | _=>cases h
 | _=>cases h
theorem gb {t:Ty} {cs:List (TV G)} {g:Ge G} {x:t.D G} (h:yC g t (qD t cs)=some x):(qD t cs).cells g=cs:=by
 cases t with
 | st i=>rfl
 | int k=>
  match cs,h with
  | [v],h=>have:=LJ (v:=v) h;subst this;rfl
  | [],h=>cases h
  | _::_::_,h=>cases h
 | bool=>
  match cs,h with
  | [v],h=>have:=LL (v:=v) h;subst this;rfl
  | [],h=>cases h
  | _::_::_,h=>cases h
 | str=>
  match cs,h with
  | [v],h=>have:=LM (v:=v) h;subst this;rfl
  | [],h=>cases h
  | _::_::_,h=>cases h
 | list t=>
  match cs,h with
  | [v],h=>
   rcases LN (v:=v) h with e | ⟨es,e,_⟩<;>(subst e;rfl)
  | [],h=>cases h
  | _::_::_,h=>cases h
 | kq t=>
  match cs,h with
  | [v],h=>
   rcases LO (v:=v) h with e | ⟨es,e,_⟩ | ⟨e,_⟩<;>(subst e;rfl)
  | [],h=>cases h
  | _::_::_,h=>cases h
 | arr n t=>rfl
 | ptr t=>
  match cs,h with
  | [v],h=>obtain ⟨l,e,_⟩:=LP (v:=v) h;subst e;rfl
  | [],h=>cases h
  | _::_::_,h=>cases h
 | eg t=>
  match cs,h with
  | [v],h=>
   rcases LQ (v:=v) h with e | ⟨l,y,e,_⟩ | ⟨e,_⟩<;>(subst e;rfl)
  | [],h=>cases h
  | _::_::_,h=>cases h
theorem rS {g:Ge G} {ln:Nat->Nat} {t:Ty} {cs:List (TV G)} {x:t.D G} (h:yC g t (qD t cs)=some x) (h1:(qD t cs).av g ln=va g t x):TV.aS g ln cs=enc g t x:=by
 rw [<-gQ,<-h1,dD,gb h]
theorem mq {g:Ge G} (hg:g.Ok) (ln:Nat->Nat):∀ (t:Ty) (v:TV G) (x:t.D G),yC g t v=some x->v.av g ln=va g t x
 | .int k,v,x,h=>by have:=LJ (x:=x) h;subst this;rfl
 | .bool,v,x,h=>by have:=LL (x:=x) h;subst this;rfl
 | .str,v,x,h=>by have:=LM (x:=x) h;subst this;rfl
 | .list t,v,x,h=>by
  rcases LN (x:=x) h with e | ⟨es,e,h⟩
  ·subst e;rfl
  ·subst e;show AV.ro _=AV.ro _;rw [br,ve (c:=TV.aS g ln) (C:=enc g t) (fun cs y hy=>?_) h];have h1:=mq hg ln t _ _ hy;rw [<-gb hy,<-dD,h1,gQ]
 | .kq t,v,x,h=>by
  rcases LO (x:=x) h with e | ⟨l,e,e2⟩ | ⟨e,e2⟩<;>(subst e;try subst e2)<;>rfl
 | .st i,v,x,h=>by
  obtain ⟨l,e,h⟩:=VL (x:=x) h;subst e;exact congrArg AV.agg (hg.mkv i l x ln h)
 | .ptr t,v,x,h=>by
  obtain ⟨l,e,h'⟩:=LP (x:=x) h;subst e;exact congrArg AV.bZ (rS h' (mq hg ln t _ _ h'))
 | .eg t,v,x,h=>by
  rcases LQ (x:=x) h with e | ⟨l,y,e,h',e2⟩ | ⟨e,e2⟩
  ·subst e;rfl
  ·subst e;subst e2;exact congrArg AV.bZ (rS h' (mq hg ln t _ _ h'))
  ·subst e;subst e2;rfl
 | .arr n t,v,x,h=>by
  rcases VM (x:=x) h with e | ⟨l,e,h'⟩
  ·subst e;rfl
  ·subst e;show AV.agg _=AV.agg _;congr 1;have h2:l.map (fun v=>TV.aS g ln [v])=List.map (enc g t) x.1:=ve (f:=fun v=>yC g t (qD t [v])) (fun v y hy=>by
    have h1:=mq hg ln t _ _ hy;have h3:=gb hy;show TV.aS g ln [v]=_;rw [<-h3,<-dD,h1,gQ]) h'
   rw [<-h2,bU];induction l with
   | nil=>rfl
   | cons y l _=>
    have:∀ l:List (TV G),l.map (TV.av g ln)=(l.map fun v=>TV.aS g ln [v]).flatten:=by
     intro l;induction l with
     | nil=>rfl
     | cons y l ih=>rw [za5,za5,zaS,<-ih];rfl
    exact this _
theorem BE {g:Ge G} (hg:g.Ok) {ln:Nat->Nat} {t:Ty} {v:TV G} {x:t.D G} (h:yC g t v=some x):TV.aS g ln (v.cells g)=enc g t x:=by
 rw [<-dD,mq hg ln t v x h,gQ]
def TO.len:TO G->Nat
 | .aL _ _ l=>l.length
 | .cX _ _ es=>es.length
 | .mix _ _ l es=>l.length+es.length
 | _=>0
def kg (H:List (TO G)) (id:Nat):Nat:=match H[id]? with
 | some o=>o.len
 | none=>0
def dR (g:Ge G) (ln:Nat->Nat) (l:List (Nat×TV G)):List (Nat×AV):=l.map fun p=>(p.1,p.2.av g ln)
def TO.av (g:Ge G) (ln:Nat->Nat) (F:List (T×C3)):TO G->Obj
 | .box l=> .live .norm l.length [TV.aS g ln l]
 | .aL fl t l=> .live fl (t.n g) (l.map (enc g t))
 | .cX fl sz es=> .live fl sz (TV.dc g ln es)
 | .mix fl t l es=> .live fl (t.n g) (l.map (enc g t)++TV.dc g ln es)
 | .arr n t a=> .live .norm (n*t.n g) [(List.map (enc g t) a.1).flatten]
 | .dead=> .dead
 | .iA=> .iA
 | .lp s fi=>(match F[fi]? with | some f=> .lp s f.1.toL f.2.1 f.2.2.1 f.2.2.2 | none=> .dead)
 | .mT l=> .mp (l.map fun p=>(.str p.1,.int .i64 p.2))
 | .yE s p=> .it s p.toNat
def DS.ln (s:DS G):Nat->Nat:=kg s.H
def DS.FR (g:Ge G) (s:DS G):List (T×C3):=s.fr.map fun f=>(⟨f.1,dR g s.ln f.2.1⟩,f.2.2)
def DS.tm (g:Ge G) (s:DS G):T:=⟨s.sz,dR g s.ln s.sl⟩
def DS.Hv (g:Ge G) (s:DS G):List Obj:=s.H.map (TO.av g s.ln (s.FR g))
def DS.st (g:Ge G) (s:DS G):ST:=⟨s.tm g,s.Hv g⟩
def EV:List (Nat×TV G)->Nat->TV G
 | [],_=> .raw .any
 | (k,v)::r,n=>if k=n then v else EV r n
def J7:List (Nat×TV G)->Nat->TV G->List (Nat×TV G)
 | [],n,x=>[(n,x)]
 | (k,v)::r,n,x=>if k=n then (n,x)::r else if n < k then (n,x)::(k,v)::r else (k,v)::J7 r n x
def EN:List (Nat×TV G)->Nat->List (Nat×TV G)
 | [],_=>[]
 | (k,v)::r,n=>if k=n then EN r n else (k,v)::EN r n
theorem BF (g:Ge G) (ln:Nat->Nat):∀ (l:List (Nat×TV G)) (n:Nat),T.fj (dR g ln l) n=(EV l n).av g ln
 | [],_=>rfl
 | (k,v)::r,n=>by
  show (if k=n then _ else T.fj (dR g ln r) n)=_;rw [BF g ln r n,EV];split<;>rfl
theorem BG (g:Ge G) (ln:Nat->Nat):∀ (l:List (Nat×TV G)) (n:Nat) (x:TV G),T.sC (dR g ln l) n (x.av g ln)=dR g ln (J7 l n x)
 | [],_,_=>rfl
 | (k,v)::r,n,x=>by
  show (if k=n then _ else if n < k then _ else (k,v.av g ln)::T.sC (dR g ln r) n _)=_;rw [BG g ln r n x,J7];split
  ·rfl
  split<;>rfl
theorem G1 (g:Ge G) (ln:Nat->Nat):∀ (l:List (Nat×TV G)) (n:Nat),T.m6 (dR g ln l) n=dR g ln (EN l n)
 | [],_=>rfl
 | (k,v)::r,n=>by
  show (if k=n then T.m6 (dR g ln r) n else (k,v.av g ln)::T.m6 (dR g ln r) n)=_;rw [G1 g ln r n,EN];split<;>rfl
def DS.get (s:DS G) (n:Nat):TV G:=EV s.sl n
def DS.put (s:DS G) (n:Nat) (v:TV G):DS G:=if n < s.sz then ⟨s.sz,J7 s.sl n v,s.H,s.fr⟩ else s
def DS.cZ (s:DS G) (d:Option Nat) (v:TV G):DS G:=match d with
 | some d=>s.put d v
 | none=>s
theorem DS.ie (g:Ge G) (s:DS G) (n:Nat):(s.tm g).get n=(s.get n).av g s.ln:=BF g s.ln s.sl n
theorem DS.Sk (s:DS G) (n:Nat) (v:TV G):(s.put n v).H=s.H:=by unfold DS.put;split<;>rfl
theorem DS.VN (s:DS G) (n:Nat) (v:TV G):(s.put n v).fr=s.fr:=by unfold DS.put;split<;>rfl
theorem DS.sL (g:Ge G) (s:DS G) (n:Nat) (v:TV G):(s.put n v).FR g=s.FR g:=by unfold DS.FR DS.ln;rw [DS.Sk,DS.VN]
theorem DS.wE (g:Ge G) (s:DS G) (n:Nat) (v:TV G):(s.put n v).Hv g=s.Hv g:=by unfold DS.Hv;rw [DS.sL];unfold DS.ln;rw [DS.Sk]
theorem DS.sM (g:Ge G) (s:DS G) (n:Nat) (v:TV G):(s.put n v).tm g=(s.tm g).put n (v.av g s.ln):=by
 unfold DS.put As.T.put;show _=if n < s.sz then _ else _
 split
 ·show (⟨_,_⟩:T)=⟨_,_⟩;rw [show (s.tm g).l=dR g s.ln s.sl from rfl,BG];rfl
 ·rfl
theorem DS.rz (g:Ge G) (s:DS G) (d:Option Nat) (v:TV G):(s.cZ d v).Hv g=s.Hv g:=by cases d with | none=>rfl | some d=>exact DS.wE g s d v
theorem DS.ow (g:Ge G) (s:DS G) (d:Option Nat) (v:TV G):(s.cZ d v).FR g=s.FR g:=by cases d with | none=>rfl | some d=>exact DS.sL g s d v
theorem DS.ox (g:Ge G) (s:DS G) (d:Option Nat) (v:TV G):(s.cZ d v).tm g=As.cZ (s.tm g) d (v.av g s.ln):=by cases d with | none=>rfl | some d=>exact DS.sM g s d v
mutual
def uQ:AV->TV G
 | .int k n=> .int k n
 | .bool b=> .bool b
 | .str s=> .str s
 | .agg l=> .agg (iK l)
 | .fn f l=> .fn f (iK l)
 | .bZ l=> .bZ (iK l)
 | .bl l=> .bl (iK l)
 | v=> .raw v
def iK:List AV->List (TV G)
 | []=>[]
 | x::xs=>uQ x::iK xs
end
mutual
theorem vF (g:Ge G) (ln:Nat->Nat):∀ v:AV,(uQ v:TV G).av g ln=v
 | .int k n=>rfl
 | .bool b=>rfl
 | .str s=>rfl
 | .agg l=>by rw [uQ,TV.av,gP g ln l]
 | .fn f l=>by rw [uQ,TV.av,gP g ln l]
 | .bZ l=>by rw [uQ,TV.av,gP g ln l]
 | .bl l=>by rw [uQ,TV.av,gP g ln l]
 | .any | .g7 | .bD | .kL | .nr | .pJ | .fI _ | .mp _ | .qy _ | .ro _ | .own .. | .aA .. | .b8 .. | .arr ..=>rfl
theorem gP (g:Ge G) (ln:Nat->Nat):∀ l:List AV,TV.aS g ln (iK l:List (TV G))=l
 | []=>rfl
 | x::l=>by rw [iK,TV.aS,vF g ln x,gP g ln l]
end
def DS.rx (gl:Nat->List AV) (s:DS G):RX->TV G
 | .t n=>s.get n
 | .c v=>uQ v
 | .g n=> .bZ (iK (gl n))
theorem DS.mQ (g:Ge G) (gl:Nat->List AV) (s:DS G):∀ x:RX,gq gl (s.tm g) x=(s.rx gl x).av g s.ln
 | .t n=>DS.ie g s n
 | .c v=>(vF g s.ln v).symm
 | .g n=>by show AV.bZ _=AV.bZ _;rw [gP]
theorem DS.gL (g:Ge G) (gl:Nat->List AV) (s:DS G) (l:List RX):l.map (gq gl (s.tm g))=TV.aS g s.ln (l.map (s.rx gl)):=by
 rw [bU,zb];exact zaI fun x _=>DS.mQ g gl s x
mutual
def TV.ja (id n:Nat):TV G->TV G
 | .qx es=> .qx (TV.kF id n es)
 | .agg l=> .agg (TV.jL id n l)
 | .bl l=> .bl (TV.jL id n l)
 | .bZ l=> .bZ (TV.jL id n l)
 | .fn f l=> .fn f (TV.jL id n l)
 | .own j=>if j=id then .raw (.own j n 0 n) else .own j
 | .pe j i o=>if j=id then .raw (.aA j n i.toNat o) else .pe j i o
 | v=>v
def TV.jL (id n:Nat):List (TV G)->List (TV G)
 | []=>[]
 | x::xs=>x.ja id n::TV.jL id n xs
def TV.kF (id n:Nat):List (List (TV G))->List (List (TV G))
 | []=>[]
 | x::xs=>TV.jL id n x::TV.kF id n xs
end
mutual
theorem rY {g:Ge G} {ln cj:Nat->Nat} {id:Nat} (h:∀ j,j≠id->cj j=ln j):∀ v:TV G,(v.ja id (ln id)).av g cj=v.av g ln
 | .int _ _ | .bool _ | .str _ | .aL _ _ | .gC _ _ | .po _ _ | .pa .. | .sa .. | .arr .. | .eg .. | .raw _=>rfl
 | .qx es=>by rw [TV.ja,TV.av,TV.av,mG h es]
 | .agg l=>by rw [TV.ja,TV.av,TV.av,iq h l]
 | .bl l=>by rw [TV.ja,TV.av,TV.av,iq h l]
 | .bZ l=>by rw [TV.ja,TV.av,TV.av,iq h l]
 | .fn f l=>by rw [TV.ja,TV.av,TV.av,iq h l]
 | .own j=>by
  rw [TV.ja];split
  ·rename_i e;subst e;rfl
  ·rename_i e;rw [TV.av,TV.av,h j e]
 | .pe j i o=>by
  rw [TV.ja];split
  ·rename_i e;subst e;rfl
  ·rename_i e;rw [TV.av,TV.av,h j e]
theorem iq {g:Ge G} {ln cj:Nat->Nat} {id:Nat} (h:∀ j,j≠id->cj j=ln j):∀ l:List (TV G),TV.aS g cj (TV.jL id (ln id) l)=TV.aS g ln l
 | []=>rfl
 | x::l=>by rw [TV.jL,TV.aS,TV.aS,rY h x,iq h l]
theorem mG {g:Ge G} {ln cj:Nat->Nat} {id:Nat} (h:∀ j,j≠id->cj j=ln j):∀ l:List (List (TV G)),TV.dc g cj (TV.kF id (ln id) l)=TV.dc g ln l
 | []=>rfl
 | x::l=>by rw [TV.kF,TV.dc,TV.dc,iq h x,mG h l]
end
def p8 (id n:Nat) (l:List (Nat×TV G)):List (Nat×TV G):=l.map fun p=>(p.1,p.2.ja id n)
def TO.ja (id n:Nat):TO G->TO G
 | .box l=> .box (TV.jL id n l)
 | .cX fl sz es=> .cX fl sz (TV.kF id n es)
 | .mix fl t l es=> .mix fl t l (TV.kF id n es)
 | o=>o
def DS.ja (s:DS G) (id:Nat):DS G:=
 let n:=s.ln id
 ⟨s.sz,p8 id n s.sl,s.H.map (TO.ja id n),s.fr.map fun f=>(f.1,p8 id n f.2.1,f.2.2)⟩
theorem yw (id n:Nat):∀ l:List (TV G),(TV.jL id n l).length=l.length
 | []=>rfl
 | x::l=>by rw [TV.jL,zaR,yw id n l];rfl
theorem n9 (id n:Nat):∀ l:List (List (TV G)),(TV.kF id n l).length=l.length
 | []=>rfl
 | x::l=>by rw [TV.kF,zaR,n9 id n l];rfl
theorem Ak {g:Ge G} {ln cj:Nat->Nat} {id:Nat} (h:∀ j,j≠id->cj j=ln j) (l:List (Nat×TV G)):dR g cj (p8 id (ln id) l)=dR g ln l:=by
 unfold dR p8;rw [zb];exact zaI fun p _=>by show (p.1,_)=(p.1,_);rw [rY h]
theorem TO.rY {g:Ge G} {ln cj:Nat->Nat} {F:List (T×C3)} {id:Nat} (h:∀ j,j≠id->cj j=ln j) (o:TO G):(o.ja id (ln id)).av g cj F=o.av g ln F:=by
 cases o with
 | box l=>show Obj.live _ _ _=Obj.live _ _ _;rw [yw,iq h]
 | cX fl sz es=>show Obj.live _ _ _=Obj.live _ _ _;rw [mG h]
 | mix fl t l es=>show Obj.live _ _ _=Obj.live _ _ _;rw [mG h]
 | _=>rfl
theorem TO.Jb (id n:Nat) (o:TO G):(o.ja id n).len=o.len:=by
 cases o with
 | cX fl sz es=>exact n9 id n es
 | mix fl t l es=>show l.length+_=l.length+_;rw [n9]
 | _=>rfl
def DS.ec (s:DS G) (id:Nat) (o:TO G):DS G:=
 let n:=s.ln id
 ⟨s.sz,p8 id n s.sl,(s.H.map (TO.ja id n)).set id o,s.fr.map fun f=>(f.1,p8 id n f.2.1,f.2.2)⟩
theorem rA (s:DS G) (id:Nat) (o:TO G):∀ j,j≠id->(s.ec id o).ln j=s.ln j:=by
 intro j hj;unfold DS.ln kg DS.ec;dsimp only;rw [za7 (Ne.symm hj),zay]
 cases s.H[j]? with
 | none=>rfl
 | some o=>exact TO.Jb _ _ o
theorem HN (g:Ge G) (s:DS G) (id:Nat) (o:TO G):(s.ec id o).FR g=s.FR g:=by
 unfold DS.FR;show (s.fr.map _).map _=_;rw [zb];refine zaI fun f _=>?_
 show ((⟨f.1,_⟩:T),f.2.2)=(⟨f.1,_⟩,f.2.2);rw [Ak (rA s id o)]
theorem Vu (g:Ge G) (s:DS G) (id:Nat) (o:TO G):(s.ec id o).tm g=s.tm g:=by
 show (⟨s.sz,_⟩:T)=⟨s.sz,_⟩;rw [show (s.ec id o).sl=p8 id (s.ln id) s.sl from rfl,Ak (rA s id o)]
theorem Q1 (g:Ge G) (s:DS G) (id:Nat) (o:TO G):(s.ec id o).Hv g=(s.Hv g).set id (o.av g (s.ec id o).ln (s.FR g)):=by
 unfold DS.Hv;rw [HN];show ((s.H.map _).set id o).map _=_;rw [zbJ,zb];congr 1;exact zaI fun o' _=>TO.rY (rA s id o) o'
def DS.iT (s:DS G) (id:Nat) (o:TO G):DS G:=⟨s.sz,s.sl,s.H.set id o,s.fr⟩
theorem vE {s:DS G} {id:Nat} {o:TO G} (h:o.len=s.ln id):(s.iT id o).ln=s.ln:=by
 funext j
 unfold DS.ln kg DS.iT;by_cases e:j=id
 ·subst e;dsimp only;unfold DS.ln kg at h;by_cases hl:j < s.H.length
  ·rw [zaY hl];exact h
  ·rw [List.set_eq_of_length_le (by omega)]
 ·rw [za7 (Ne.symm e)]
theorem HM {g:Ge G} {s:DS G} {id:Nat} {o:TO G} (h:o.len=s.ln id):(s.iT id o).FR g=s.FR g:=by
 unfold DS.FR;rw [vE h];rfl
theorem Vt {g:Ge G} {s:DS G} {id:Nat} {o:TO G} (h:o.len=s.ln id):(s.iT id o).tm g=s.tm g:=by
 unfold DS.tm;rw [vE h];rfl
theorem Q0 {g:Ge G} {s:DS G} {id:Nat} {o:TO G} (h:o.len=s.ln id):(s.iT id o).Hv g=(s.Hv g).set id (o.av g s.ln (s.FR g)):=by
 unfold DS.Hv;rw [HM h,vE h];show (s.H.set id o).map _=_;rw [zbJ]
mutual
def TV.CF (id:Nat):TV G->Bool
 | .qx es=>TV.je id es
 | .agg l=>TV.mz id l
 | .bl l=>TV.mz id l
 | .bZ l=>TV.mz id l
 | .fn _ l=>TV.mz id l
 | .own j=> !Nat.beq j id
 | .pe j _ _=> !Nat.beq j id
 | _=>true
def TV.mz (id:Nat):List (TV G)->Bool
 | []=>true
 | x::xs=>x.CF id&&TV.mz id xs
def TV.je (id:Nat):List (List (TV G))->Bool
 | []=>true
 | x::xs=>TV.mz id x&&TV.je id xs
end
mutual
theorem DV {g:Ge G} {ln cj:Nat->Nat} {id:Nat} (h:∀ j,j≠id->cj j=ln j):∀ v:TV G,v.CF id=true->v.av g cj=v.av g ln
 | .int _ _,_ | .bool _,_ | .str _,_ | .aL _ _,_ | .gC _ _,_ | .po _ _,_ | .pa ..,_ | .sa ..,_ | .arr ..,_ | .eg ..,_ | .raw _,_=>rfl
 | .qx es,e=>by rw [TV.av,TV.av,gm h es e]
 | .agg l,e=>by rw [TV.av,TV.av,ir h l e]
 | .bl l,e=>by rw [TV.av,TV.av,ir h l e]
 | .bZ l,e=>by rw [TV.av,TV.av,ir h l e]
 | .fn f l,e=>by rw [TV.av,TV.av,ir h l e]
 | .own j,e=>by
  have hj:j≠id:=by
   rintro rfl;simp [TV.CF] at e
  rw [TV.av,TV.av,h j hj]
 | .pe j i o,e=>by
  have hj:j≠id:=by
   rintro rfl;simp [TV.CF] at e
  rw [TV.av,TV.av,h j hj]
theorem ir {g:Ge G} {ln cj:Nat->Nat} {id:Nat} (h:∀ j,j≠id->cj j=ln j):∀ l:List (TV G),TV.mz id l=true->TV.aS g cj l=TV.aS g ln l
 | [],_=>rfl
 | x::l,e=>by
  simp only [TV.mz,za0] at e;rw [TV.aS,TV.aS,DV h x e.1,ir h l e.2]
theorem gm {g:Ge G} {ln cj:Nat->Nat} {id:Nat} (h:∀ j,j≠id->cj j=ln j):∀ l:List (List (TV G)),TV.je id l=true->TV.dc g cj l=TV.dc g ln l
 | [],_=>rfl
 | x::l,e=>by
  simp only [TV.je,za0] at e;rw [TV.dc,TV.dc,ir h x e.1,gm h l e.2]
end
def p9 (id:Nat):List (Nat×TV G)->Bool
 | []=>true
 | p::r=>p.2.CF id&&p9 id r
def jM (id:Nat):List (TO G)->Bool
 | []=>true
 | .box l::r=>TV.mz id l&&jM id r
 | .cX _ _ es::r=>TV.je id es&&jM id r
 | .mix _ _ _ es::r=>TV.je id es&&jM id r
 | _::r=>jM id r
def sW (id:Nat):List (Nat×List (Nat×TV G)×C3)->Bool
 | []=>true
 | f::r=>p9 id f.2.1&&sW id r
theorem tX {g:Ge G} {ln cj:Nat->Nat} {id:Nat} (h:∀ j,j≠id->cj j=ln j):∀ l:List (Nat×TV G),p9 id l=true->dR g cj l=dR g ln l
 | [],_=>rfl
 | p::l,e=>by
  simp only [p9,za0] at e;show (p.1,_)::dR g cj l=(p.1,_)::dR g ln l;rw [DV h _ e.1,tX h l e.2]
theorem lS {g:Ge G} {ln cj:Nat->Nat} {F:List (T×C3)} {id:Nat} (h:∀ j,j≠id->cj j=ln j):∀ l:List (TO G),jM id l=true->l.map (TO.av g cj F)=l.map (TO.av g ln F)
 | [],_=>rfl
 | .box l::r,e=>by
  simp only [jM,za0] at e;show Obj.live _ _ _::r.map _=Obj.live _ _ _::r.map _;rw [ir h _ e.1,lS h r e.2]
 | .cX _ _ es::r,e=>by
  simp only [jM,za0] at e;show Obj.live _ _ _::r.map _=Obj.live _ _ _::r.map _;rw [gm h _ e.1,lS h r e.2]
 | .mix _ _ _ es::r,e=>by
  simp only [jM,za0] at e;show Obj.live _ _ _::r.map _=Obj.live _ _ _::r.map _;rw [gm h _ e.1,lS h r e.2]
 | .aL ..::r,e | .arr ..::r,e | .dead::r,e | .iA::r,e | .lp ..::r,e | .mT ..::r,e | .yE ..::r,e=>by
  show _::r.map _=_::r.map _;rw [lS h r e];rfl
theorem Al {g:Ge G} {ln cj:Nat->Nat} {id:Nat} (h:∀ j,j≠id->cj j=ln j):∀ l:List (Nat×List (Nat×TV G)×C3),sW id l=true->(l.map fun f=>((⟨f.1,dR g cj f.2.1⟩:T),f.2.2))=l.map fun f=>(⟨f.1,dR g ln f.2.1⟩,f.2.2)
 | [],_=>rfl
 | f::r,e=>by
  simp only [sW,za0] at e;show ((⟨f.1,_⟩:T),f.2.2)::r.map _=(⟨f.1,_⟩,f.2.2)::r.map _;rw [tX h _ e.1,Al h r e.2]
def DS.eE (s:DS G) (pl:Nat) (o:TO G):DS G:=⟨s.sz,s.sl,if pl < s.H.length then s.H.set pl o else s.H++[o],s.fr⟩
def DS.fits (s:DS G) (pl:Nat) (o:TO G):Bool:=Nat.ble pl s.H.length&&match o with
 | .aL ..=>p9 pl s.sl&&(jM pl s.H&&sW pl s.fr)
 | .cX _ _ es=>p9 pl s.sl&&(jM pl s.H&&sW pl s.fr)&&TV.je pl es
 | .mix ..=>false
 | _=>kg s.H pl==0
theorem BD {s:DS G} {pl:Nat} (hp:pl<=s.H.length) (o:TO G):∀ j,j≠pl->(s.eE pl o).ln j=s.ln j:=by
 intro j hj;unfold DS.ln kg DS.eE;dsimp only;by_cases hl:pl < s.H.length
 ·rw [if_pos hl,za7 (Ne.symm hj)]
 ·rw [if_neg hl];by_cases h:j < s.H.length
  ·rw [zap h]
  ·have e1:(s.H++[o])[j]?=none:=zan (by simp;omega);have e2:s.H[j]?=none:=zan (by omega);rw [e1,e2]
theorem xh {s:DS G} {pl:Nat} (hp:pl<=s.H.length) {o:TO G} (h:o.len=0) (h0:kg s.H pl=0):(s.eE pl o).ln=s.ln:=by
 funext j
 by_cases hj:j=pl
 ·subst hj;show kg _ j=kg s.H j;rw [h0];unfold kg DS.eE;dsimp only;by_cases hl:j < s.H.length
  ·rw [if_pos hl,zaY hl];exact h
  ·rw [if_neg hl];have:j=s.H.length:=by omega
   subst this;rw [zav (by omega)];simp [h]
 ·exact BD hp o j hj
theorem fV {g:Ge G} {s:DS G} {pl:Nat} {o:TO G} (h:s.fits pl o=true):(s.eE pl o).tm g=s.tm g/\(s.eE pl o).FR g=s.FR g/\(s.eE pl o).Hv g=putObj (s.Hv g) pl (o.av g (s.eE pl o).ln (s.FR g)):=by
 unfold DS.fits at h;rw [za0] at h;have hp:pl<=s.H.length:=zau h.1;have k1:=BD hp o;have k2:(s.eE pl o).ln=s.ln\/(p9 pl s.sl&&(jM pl s.H&&sW pl s.fr))=true:=by
  have h2:=h.2
  cases o with
  | aL fl t l=>exact .inr h2
  | cX fl sz es=>exact .inr ((za0 _ _).mp h2).1
  | mix fl t l es=>cases h2
  | _=>exact .inl (xh hp rfl (by simpa using h2))
 have hT:(s.eE pl o).tm g=s.tm g:=by
  show (⟨s.sz,dR g _ s.sl⟩:T)=⟨s.sz,dR g _ s.sl⟩;rcases k2 with e | e
  ·rw [e]
  ·simp only [za0] at e;rw [tX k1 _ e.1]
 have hF:(s.eE pl o).FR g=s.FR g:=by
  unfold DS.FR;rcases k2 with e | e
  ·rw [e];rfl
  ·simp only [za0] at e;exact Al k1 _ e.2.2
 refine ⟨hT,hF,?_⟩;have hH:s.H.map (TO.av g (s.eE pl o).ln (s.FR g))=s.H.map (TO.av g s.ln (s.FR g)):=by
  rcases k2 with e | e
  ·rw [e]
  ·simp only [za0] at e;exact lS k1 _ e.2.1
 unfold DS.Hv;rw [hF];show (if pl < s.H.length then s.H.set pl o else s.H++[o]).map _=putObj _ _ _;unfold putObj;rw [zah];split
 ·rw [zbJ,hH]
 ·rw [zal,hH];rfl
theorem gH (g:Ge G) (s:DS G):(s.Hv g).length=s.H.length:=by simp [DS.Hv]
theorem bw {g:Ge G} {s:DS G} {id:Nat} {o:TO G} (h:s.H[id]?=some o):(s.Hv g)[id]?=some (o.av g s.ln (s.FR g)):=by
 unfold DS.Hv;rw [zay,h];rfl
end
end oZ
end
