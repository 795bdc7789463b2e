/- Parts of my machine and its laws, joined: AmP0 AmWr DnA. No condition. -/
import Derived.Calls
import Derived.Test.YtafgdbaekppjcaaGreatDoorAmWp
import Derived.KernelRfl
set_option linter.unusedSectionVars false
set_option linter.unusedVariables false
set_option linter.unusedSimpArgs false
section
namespace Go.Pl
def aO (k:IntKind) (x y:Int):Int:=k.wrap (x+y)
def dF (k:IntKind) (x y:Int):Int:=k.wrap (x - y)
def dw (k:IntKind) (x y:Int):Int:=k.wrap (x*y)
def idx {α:Type} (l:List α) (i:Int):Option α:=if 0<=i then l[i.toNat]? else none
def cX {α:Type} (bytes:Nat) (l m:List α):Option (List α):=if (l.length+m.length)*bytes<=2 ^ 40/\l.length+m.length<=2 ^ 40 then some (l++m) else none
def qH {α:Type} (bytes:Nat) (n:Int) (z:α):Option (List α):=if 0<=n/\n*bytes<=2 ^ 40/\n<=2 ^ 40 then some (List.replicate n.toNat z) else none
def oe {α:Type} (l:List α) (lo hi:Option Int):Option (List α):=
 if 0<=lo.getD 0/\lo.getD 0<=hi.getD l.length/\hi.getD l.length<=l.length then some ((l.drop (lo.getD 0).toNat).take ((hi.getD l.length).toNat - (lo.getD 0).toNat)) else none
def FL (k:IntKind) (x y:Int):Option Int:=if y=0 then none else some (k.wrap (x.tdiv y))
def og (x y:Int):Option Int:=if y=0 then none else some (x.tmod y)
def T4 (k:IntKind) (x y:Int):Option Int:=if y < 0 then none else some (k.wrap (x*2 ^ (min y.toNat k.bits)))
def T5 (k:IntKind) (x y:Int):Option Int:=if y < 0 then none else some (x.fdiv (2 ^ (min y.toNat k.bits)))
def eY (k:IntKind) (x y:Int):Int:=k.wrap ((BitVec.ofInt k.bits x)&&& (BitVec.ofInt k.bits y)).toNat
def XB (k:IntKind) (x y:Int):Int:=k.wrap ((BitVec.ofInt k.bits x)||| (BitVec.ofInt k.bits y)).toNat
def nL (x y:List UInt8):Option (List UInt8):=if x.length+y.length<=2 ^ 40 then some (x++y) else none
def YG (x y:Int):Int:=if y < x then y else x
def PZ (x y:Int):Int:=if y > x then y else x
def YH {α:Type}:Option (List α)->Option Bool
 | none=>some true
 | some []=>none
 | some (_::_)=>some false
def LG {α:Type} (bytes:Nat) (n:Int) (z:α):Option (List α):=if 0 < n/\n*bytes<=2 ^ 40/\n<=2 ^ 40 then some (List.replicate n.toNat z) else none
def CN {α:Type}:List α->Option Unit
 | []=>none
 | _::_=>some ()
def eJ (n:Nat) (α:Type):Type:={ l:List α // l.length=n }
def eJ.put {n:Nat} {α:Type} (a:eJ n α) (i:Nat) (x:α):eJ n α:=⟨a.1.set i x,by simp [a.2]⟩
def eJ.rep (n:Nat) {α:Type} (x:α):eJ n α:=⟨List.replicate n x,by simp⟩
theorem eJ.len {n:Nat} {α:Type} (a:eJ n α):a.1.length=n:=a.2
def eJ.at {n:Nat} {α:Type} [Inhabited α] (a:eJ n α) (k:Nat):α:=a.1.getD k default
def nM {n:Nat} {α:Type} (a:eJ n α) (i:Int):Option α:=idx a.1 i
def lE {σ ρ:Type} (body:σ->Option (σ⊕ρ)):Nat->σ->Option ρ
 | 0,_=>none
 | n+1,s=>match body s with
  | none=>none
  | some (.inl s')=>lE body n s'
  | some (.inr r)=>some r
def fuel:Nat:=18446744073709551616
def iter {σ ρ:Type} (body:σ->Option (σ⊕ρ)) (s:σ):Option ρ:=lE body fuel s
theorem bind_some {α β:Type} {m:Option α} {f:α->Option β} {r:β} (h:m.bind f=some r):∃ v,m=some v/\f v=some r:=by
 cases m with
 | none=>simp at h
 | some v=>exact ⟨v,rfl,h⟩
theorem map_some {α β:Type} {m:Option α} {f:α->β} {r:β} (h:m.map f=some r):∃ v,m=some v/\f v=r:=by
 cases m with
 | none=>simp at h
 | some v=>exact ⟨v,rfl,by simpa using h⟩
theorem rA {σ ρ:Type} {body:σ->Option (σ⊕ρ)} (I:σ->Prop) (m:σ->Nat) (Q:ρ->Prop) {s:σ} (h0:I s) (hf:m s < fuel)
 (h:∀ s,I s->(∃ s',body s=some (.inl s')/\I s'/\m s' < m s)\/∃ r,body s=some (.inr r)/\Q r):∃ r,iter body s=some r/\Q r:=by
 have key:∀ n s,I s->m s < n->∃ r,lE body n s=some r/\Q r:=by
  intro n;induction n with
  | zero=>intro s _ hlt;omega
  | succ n ih=>
   intro s hi hlt;rcases h s hi with ⟨s',hb,hi',hm⟩ | ⟨r,hb,hq⟩
   ·obtain ⟨r,h1,h2⟩:=ih s' hi' (by omega);exact ⟨r,by rw [lE,hb];exact h1,h2⟩
   ·exact ⟨r,by rw [lE,hb],hq⟩
 exact key fuel s h0 hf
def DY (x:List UInt8):List (List UInt8×Int)->Option Int
 | []=>none
 | p::r=>if x=p.1 then some p.2 else DY x r
def Cy (x:List UInt8) (v:Int):List (List UInt8×Int)->List (List UInt8×Int)
 | []=>[(x,v)]
 | p::r=>if x=p.1 then (x,v)::r else p::Cy x v r
def qK (s:List UInt8) (p:Int):Int×Int:=((Utf8.decode ⟨s.toArray⟩ p.toNat).1,((p.toNat+(Utf8.decode ⟨s.toArray⟩ p.toNat).2:Nat):Int))
end Go.Pl
end
section
namespace Go.Am
abbrev AV.i (n:Int):AV:= .int .i64 n
abbrev AV.po (id o:Nat):AV:= .ax id 1 0 o
abbrev Obj.lv (n:Nat) (cs:List AV):Obj:= .live .norm n [cs]
end Go.Am
namespace Go.Am.As
open Go.Pl
def W (E:Env) (hp:Nat->Bool) (c:RC) (b:Nat) (N:ST->Prop) (X:Nat->ST->Prop) (R:ST->Prop) (s:ST):Prop:=
 WP E hp c b (fun e s'=>match e with | .normal=>N s' | .exit i=>X i s' | .ret=>R s') s
section
variable {E:Env} {hp:Nat->Bool} {b:Nat} {N:ST->Prop} {X:Nat->ST->Prop} {R:ST->Prop} {s:ST}
theorem W.mono {c:RC} {N' X' R'} (h:W E hp c b N X R s) (hn:∀ s,N s->N' s) (hx:∀ i s,X i s->X' i s) (hr:∀ s,R s->R' s):W E hp c b N' X' R' s:=
 WP.mono h fun e s' q=>by cases e with | normal=>exact hn _ q | exit i=>exact hx _ _ q | ret=>exact hr _ q
theorem oQ {α:Type} {C:α->List AV} (h:∀ x,AV.aS 0 (C x)=true) (n:Nat):∀ l:List α,AV.bM n (l.map C)=true
 | []=>rfl
 | x::l=>by simp [AV.bM,fL (Nat.zero_le n) _ (h x),oQ h n l]
variable {dr:Bool} {t:T} {H:List Obj} {K:T->List Obj->Prop}
variable {d:Option Nat} {g:Option (Nat×Bool)} {os:List bD}
theorem Ss {f:Nat} {xs:List AV} {K:AV->List Obj->Prop} {na nt:Nat} {rs:List (Sum Nat (Nat×Nat×Bool))} {body:RC} (hfn:E.fns f=some ⟨na,nt,rs,body⟩) (hf:hp f=true\/snaps H xs=none) (hn:xs.length=na) (hm:na<=nt)
 (h:WP E hp body H.length (fun e s'=>match e with | .exit _=>False | _=>∃ l,bQ rs s'=some l/\K (oneOf l) s'.H) ⟨⟨nt,T.jC xs 0⟩,H⟩):WC E hp false f xs H K:=by
 obtain ⟨n,e,s',h,hq⟩:=h;have key:∀ {l:List AV},bQ rs s'=some l->(e= .normal\/e= .ret)->bI (bif false then fun _=>false else hp) (jw E.fns (aq E hp n)) (bif false then fun _ _ _=>none else jE E.fns (aq E hp n)) f xs H=some (oneOf l,s'.H):=by
  intro l hl he;have hc:jE E.fns (aq E hp n) f xs H=some (oneOf l,s'.H):=by
   simp only [jE,hfn,hn,hm,and_self,if_true];have hst:eL (⟨na,nt,rs,body⟩:RF) xs=⟨nt,T.jC xs 0⟩:=rfl;rw [hst,h];rcases he with rfl | rfl<;>simp only [hl]
  unfold bI;simp only [cond_false];by_cases hp':hp f=true
  ·rw [if_pos hp'];exact hc
  ·rw [if_neg hp'];rcases hf with hf | hf
   ·exact (hp' hf).elim
   ·rw [hf];exact hc
 cases e with
 | exit i=>exact hq.elim
 | normal=>obtain ⟨l,h1,h2⟩:=hq;exact ⟨n,_,_,key h1 (.inl rfl),h2⟩
 | ret=>obtain ⟨l,h1,h2⟩:=hq;exact ⟨n,_,_,key h1 (.inr rfl),h2⟩
structure lJ {α:Type} (C:α->List AV) (sz:Nat):Prop where
 len:∀ x,(C x).length=sz
 one:∀ x,aX (C x)=true
 bA:∀ x,AV.aS 0 (C x)=true
theorem fM {α:Type} {C:α->List AV} (h:∀ x,AV.aS 0 (C x)=true):∀ l:List α,AV.bM 0 (l.map C)=true
 | []=>rfl
 | x::l=>by simp [AV.bM,h x,fM h l]
theorem Cf {xs ys:List AV} (h1:AV.aS 0 xs=true) (h2:AV.aS 0 ys=true):AV.aS 0 (xs++ys)=true:=by
 induction xs with
 | nil=>exact h2
 | cons x xs ih=>simp only [AV.aS,Bool.and_eq_true,List.cons_append] at h1 ⊢;exact ⟨h1.1,ih h1.2⟩
theorem iy {d:Nat} {H:List Obj} {v:AV} (h:v.bA 0=true):pk d H v=some v:=by
 cases d<;>(unfold pk;rw [if_pos (by exact h)])
theorem rW {d:Nat} {H:List Obj}:∀ {xs:List AV},AV.aS 0 xs=true->eR (pk d H) xs=some xs
 | [],_=>rfl
 | x::xs,h=>by simp only [AV.aS,Bool.and_eq_true] at h;simp [eR,iy h.1,rW h.2]
theorem ru {α:Type} {C:α->List AV} {d:Nat} {H:List Obj} (h:∀ x,AV.aS 0 (C x)=true):∀ l:List α,fV (pk d H) (l.map C)=some (l.map C)
 | []=>rfl
 | x::l=>by simp [fV,rW (h x),ru h l]
theorem Bu:∀ (l m:List Bool),l.length=m.length->bE (List.replicate l.length .bool) (l.map AV.bool) (m.map AV.bool)=some (l==m)
 | [],[],_=>rfl
 | x::l,y::m,h=>by
  have:=Bu l m (by simpa using h);simp only [List.length_cons,List.replicate_succ,List.map_cons,bE,ec,this];rfl
theorem Bv (k:IntKind):∀ (l m:List Int),l.length=m.length->bE (List.replicate l.length (.int k)) (l.map (AV.int k)) (m.map (AV.int k))=some (l==m)
 | [],[],_=>rfl
 | x::l,y::m,h=>by
  have:=Bv k l m (by simpa using h);simp only [List.length_cons,List.replicate_succ,List.map_cons,bE,ec,this,and_self,if_true];rfl
theorem vA {α:Type} {C:α->List AV} {c1:α->AV} (hC:∀ x,C x=[c1 x]):∀ (n:Nat) (l:List α),n<=l.length->chunks 1 n (l.map c1)=(l.take n).map C
 | 0,_,_=>by simp [chunks]
 | n+1,[],h=>by simp at h
 | n+1,x::l,h=>by
  have:=vA hC n l (by simpa using h);simp only [List.map_cons,chunks,List.take_succ_cons,hC,List.take_zero,List.drop_succ_cons,List.drop_zero,this]
theorem Fb {α:Type} {C:α->List AV} {n:Nat} (hC:∀ a,(C a).length=n):∀ (l:List α) (k:Nat) (hk:k < l.length),k*n+n<=((l.map C).flatten).length/\(((l.map C).flatten.drop (k*n)).take n)=C l[k]
 | x::l,0,_=>by
  simp only [List.map_cons,List.flatten_cons,List.length_append,Nat.zero_mul,List.drop_zero,List.getElem_cons_zero,hC x];refine ⟨by omega,?_⟩;rw [List.take_append_of_le_length (by rw [hC x];exact Nat.le_refl _),List.take_of_length_le (by rw [hC x];exact Nat.le_refl _)]
 | x::l,k+1,hk=>by
  obtain ⟨h1,h2⟩:=Fb hC l k (by simpa using hk);have e:(k+1)*n=n+k*n:=by rw [Nat.succ_mul,Nat.add_comm]
  simp only [List.map_cons,List.flatten_cons,List.length_append,List.getElem_cons_succ,hC x,e];refine ⟨by omega,?_⟩;have d1:(C x++(List.map C l).flatten).drop n=(List.map C l).flatten:=List.drop_left' (hC x);rw [<-List.drop_drop,d1];exact h2
def WD (E:Env) (hp:Nat->Bool) (b0:Nat) (os:List (Nat×bD)) (t:T) (H:List Obj) (K:T->List Obj->List FP->Prop):Prop:=
 ∃ n t' H' fs,fW E.aI (jw E.fns (aq E hp n)) b0 os t H=some (t',H',fs)/\K t' H' fs
theorem Sm {b0:Nat} {K:T->List Obj->List FP->Prop} (h:K t H []):WD E hp b0 [] t H K:=⟨0,t,H,[],rfl,h⟩
theorem Gs:∀ {x:AV},x.bA 0=true->refs x=[]:=by
 intro x h
 cases x<;>first | rfl | simp [AV.bA] at h
theorem vW:∀ {xs:List AV},AV.aS 0 xs=true->xs.flatMap refs=[]
 | [],_=>rfl
 | x::xs,h=>by
  simp only [AV.aS,Bool.and_eq_true] at h;simp only [List.flatMap_cons,Gs h.1,vW h.2,List.append_nil]
theorem zL {pl f:Nat} {args:List RX} {ys:List AV} (h:args.map (fI E.aI t)=ys) (hb:AV.aS 0 ys=true):lF (fI E.aI t) pl (.call f args)={ all:=false }:=by
 subst h;simp only [lF,vW hb]
def Ap {α:Type} (C:α->List AV):Option (List α)->AV
 | none=> .bx
 | some l=> .ro (l.map C)
end
def Fin (rs:List (Sum Nat (Nat×Nat×Bool))) (r:AV) (s:ST):Prop:=∃ l,bQ rs s=some l/\pack s.H (oneOf l)=some r
section
variable {E:Env} {hp:Nat->Bool}
theorem oW {xs ys:List AV} (h1:aX xs=true) (h2:aX ys=true):aX (xs++ys)=true:=by
 induction xs with
 | nil=>exact h2
 | cons x xs ih=>simp only [aX,Bool.and_eq_true,List.cons_append] at h1 ⊢;exact ⟨h1.1,ih h1.2⟩
end
end Go.Am.As
end
section
namespace nT
open Go hiding Obj mark
open Go.Pl Go.Am Go.Am.As
inductive Ty where
 | int (k:IntKind)
 | bool
 | str
 | list (t:Ty)
 | jH (t:Ty)
 | st (i:Nat)
 | arr (n:Nat) (t:Ty)
 | ptr (t:Ty)
 | dB (t:Ty)
 deriving DecidableEq,Inhabited
def Ty.D (G:Nat->Type):Ty->Type
 | int _=>Int
 | bool=>Bool
 | str=>List UInt8
 | list t=>List (t.D G)
 | jH t=>Option (List (t.D G))
 | st i=>G i
 | arr n t=>eJ n (t.D G)
 | ptr t=>t.D G
 | dB t=>Option (t.D G)
inductive TV (G:Nat->Type) where
 | int (k:IntKind) (n:Int)
 | bool (b:Bool)
 | str (s:List UInt8)
 | bg (t:Ty) (l:List (t.D G))
 | fS (t:Ty) (l:Option (List (t.D G)))
 | oY (es:List (List (TV G)))
 | agg (l:List (TV G))
 | bk (l:List (TV G))
 | bV (l:List (TV G))
 | fn (f:Nat) (l:List (TV G))
 | po (id o:Nat)
 | own (id:Nat)
 | pe (id:Nat) (i:Int) (o:Nat)
 | pa (id sz:Nat) (i:Int) (o:Nat)
 | sa (id lo len n:Nat) (h:lo+len<=n)
 | arr (n:Nat) (t:Ty) (a:eJ n (t.D G))
 | dB (t:Ty) (x:Option (t.D G))
 | raw (v:AV)
structure Ge (G:Nat->Type) where
 n:Nat->Nat
 enc:(i:Nat)->G i->List AV
 view:(i:Nat)->G i->List (TV G)
 Xo:(i:Nat)->List (TV G)->Option (G i)
inductive TO (G:Nat->Type) where
 | box (l:List (TV G))
 | bg (fl:Fl) (t:Ty) (l:List (t.D G))
 | cN (fl:Fl) (sz:Nat) (es:List (List (TV G)))
 | mix (fl:Fl) (t:Ty) (l:List (t.D G)) (es:List (List (TV G)))
 | arr (n:Nat) (t:Ty) (a:eJ n (t.D G))
 | dead
 | gB
 | lp (s:Ls) (fi:Nat)
 | fQ (l:List (List UInt8×Int))
 | wC (s:List UInt8) (p:Int)
abbrev C3:=List Nat×RC×RC
structure DS (G:Nat->Type) where
 sz:Nat
 sl:List (Nat×TV G)
 H:List (TO G)
 fr:List (Nat×List (Nat×TV G)×C3)
section
variable {G:Nat->Type}
def Ty.n (g:Ge G):Ty->Nat
 | .st i=>g.n i
 | .arr n t=>n*t.n g
 | _=>1
def CZ {α:Type} (C:α->List AV):Option α->AV
 | none=> .gA
 | some x=> .bV (C x)
theorem wg {α:Type} (C:α->List AV) (o:Option α):(CZ C o).cells=[CZ C o]:=by cases o<;>rfl
def enc (g:Ge G):(t:Ty)->t.D G->List AV
 | .int k,n=>[.int k n]
 | .bool,b=>[.bool b]
 | .str,s=>[.str s]
 | .list t,l=>[.ro (List.map (enc g t) l)]
 | .jH t,o=>[Ap (enc g t) o]
 | .st i,x=>g.enc i x
 | .arr _ t,a=>(List.map (enc g t) a.1).flatten
 | .ptr t,x=>[.bV (enc g t x)]
 | .dB t,o=>[CZ (enc g t) o]
def va (g:Ge G):(t:Ty)->t.D G->AV
 | .int k,n=> .int k n
 | .bool,b=> .bool b
 | .str,s=> .str s
 | .list t,l=> .ro (List.map (enc g t) l)
 | .jH t,o=>Ap (enc g t) o
 | .st i,x=> .agg (g.enc i x)
 | .arr _ t,a=> .agg (List.map (enc g t) a.1).flatten
 | .ptr t,x=> .bV (enc g t x)
 | .dB t,o=>CZ (enc g t) o
def TV.cells (g:Ge G):TV G->List (TV G)
 | .agg l=>l
 | .raw v=>v.cells.map .raw
 | .arr _ t a=>(List.map (enc g t) a.1).flatten.map .raw
 | v=>[v]
def view (g:Ge G):(t:Ty)->t.D G->TV G
 | .int k,n=> .int k n
 | .bool,b=> .bool b
 | .str,s=> .str s
 | .list t,l=> .bg t l
 | .jH t,o=> .fS t o
 | .st i,x=> .agg (g.view i x)
 | .arr n t,a=> .arr n t a
 | .ptr t,x=> .bV ((view g t x).cells g)
 | .dB t,o=> .dB t o
mutual
def TV.av (g:Ge G) (ln:Nat->Nat):TV G->AV
 | .int k n=> .int k n
 | .bool b=> .bool b
 | .str s=> .str s
 | .bg t l=> .ro (List.map (enc g t) l)
 | .fS t o=>Ap (enc g t) o
 | .oY es=> .ro (TV.cU g ln es)
 | .agg l=> .agg (TV.aR g ln l)
 | .bk l=> .bk (TV.aR g ln l)
 | .bV l=> .bV (TV.aR g ln l)
 | .fn f l=> .fn f (TV.aR g ln l)
 | .po id o=> .ax id 1 0 o
 | .own id=> .own id (ln id) 0 (ln id)
 | .pe id i o=> .ax id (ln id) i.toNat o
 | .pa id sz i o=> .ax id 1 0 (i.toNat*sz+o)
 | .sa id lo len _ _=>if len=0 then .ro [] else .arr id 1 0 lo 1 len
 | .arr _ t a=> .agg (List.map (enc g t) a.1).flatten
 | .dB t o=>CZ (enc g t) o
 | .raw v=>v
def TV.aR (g:Ge G) (ln:Nat->Nat):List (TV G)->List AV
 | []=>[]
 | x::xs=>x.av g ln::TV.aR g ln xs
def TV.cU (g:Ge G) (ln:Nat->Nat):List (List (TV G))->List (List AV)
 | []=>[]
 | x::xs=>TV.aR g ln x::TV.cU g ln xs
end
structure Ge.Ok (g:Ge G):Prop where
 ok:∀ i,lJ (g.enc i) (g.n i)
 view:∀ i x ln,TV.aR g ln (g.view i x)=g.enc i x
 Xo:∀ i l x ln,g.Xo i l=some x->TV.aR g ln l=g.enc i x
theorem bX (g:Ge G) (ln:Nat->Nat):∀ l:List (TV G),TV.aR g ln l=l.map (TV.av g ln)
 | []=>rfl
 | x::l=>by rw [TV.aR,bX g ln l];rfl
theorem bl (g:Ge G) (ln:Nat->Nat):∀ l:List (List (TV G)),TV.cU g ln l=l.map (TV.aR g ln)
 | []=>rfl
 | x::l=>by rw [TV.cU,bl g ln l];rfl
theorem dh (g:Ge G) (ln:Nat->Nat) (l:List (TV G)):(TV.aR g ln l).length=l.length:=by rw [bX];simp
theorem oW:∀ {l m:List AV},aX l=true->aX m=true->aX (l++m)=true
 | [],_,_,h=>h
 | x::l,m,h,h'=>by
  simp only [aX,Bool.and_eq_true,List.cons_append] at h ⊢;exact ⟨h.1,oW h.2 h'⟩
theorem cR {g:Ge G} (hg:g.Ok):∀ t:Ty,lJ (enc g t) (t.n g)
 | .int _=>⟨fun _=>rfl,fun _=>rfl,fun _=>rfl⟩
 | .bool=>⟨fun _=>rfl,fun _=>rfl,fun _=>rfl⟩
 | .str=>⟨fun _=>rfl,fun _=>rfl,fun _=>rfl⟩
 | .list _=>⟨fun _=>rfl,fun _=>rfl,fun _=>rfl⟩
 | .jH _=>⟨fun _=>rfl,fun x=>by cases x<;>rfl,fun x=>by cases x<;>rfl⟩
 | .st i=>hg.ok i
 | .ptr _=>⟨fun _=>rfl,fun _=>rfl,fun _=>rfl⟩
 | .dB _=>⟨fun _=>rfl,fun x=>by cases x<;>rfl,fun x=>by cases x<;>rfl⟩
 | .arr n t=>by
  have ih:=cR hg t;refine ⟨fun a=>?_,fun a=>?_,fun a=>?_⟩
  ·have:∀ l:List (t.D G),(List.map (enc g t) l).flatten.length=l.length*t.n g:=by
    intro l;induction l with
    | nil=>simp
    | cons x l TZ=>simp only [List.map_cons,List.flatten_cons,List.length_append,TZ,ih.len,List.length_cons,Nat.succ_mul];omega
   show (List.map (enc g t) a.1).flatten.length=_;rw [this,a.2];rfl
  ·show aX (List.map (enc g t) a.1).flatten=true;induction a.1 with
   | nil=>rfl
   | cons x l TZ=>rw [List.map_cons,List.flatten_cons];exact oW (ih.one x) TZ
  ·show AV.aS 0 (List.map (enc g t) a.1).flatten=true;induction a.1 with
   | nil=>rfl
   | cons x l TZ=>rw [List.map_cons,List.flatten_cons];exact Cf (ih.bA x) TZ
theorem tF (g:Ge G) (ln:Nat->Nat) (l:List AV):TV.aR g ln (l.map .raw)=l:=by
 rw [bX];induction l with
 | nil=>rfl
 | cons x l ih=>simp only [List.map_cons,TV.av,List.cons.injEq,true_and];exact ih
theorem wh {α:Type} (C:α->List AV) (o:Option (List α)):(Ap C o).cells=[Ap C o]:=by cases o<;>rfl
theorem dc (g:Ge G) (ln:Nat->Nat) (v:TV G):(v.av g ln).cells=TV.aR g ln (v.cells g):=by
 cases v with
 | raw v=>exact (tF g ln _).symm
 | fS t o=>exact wh _ o
 | dB t o=>exact wg _ o
 | arr n t a=>exact (tF g ln _).symm
 | sa id lo len=>simp only [TV.av,TV.cells,TV.aR];split<;>rfl
 | _=>rfl
theorem gm (g:Ge G):∀ (t:Ty) (x:t.D G),(va g t x).cells=enc g t x
 | .int _,_ | .bool,_ | .str,_ | .list _,_=>rfl
 | .jH _,o=>wh _ o
 | .dB _,o=>wg _ o
 | .st _,_ | .arr _ _,_ | .ptr _,_=>rfl
theorem tn {g:Ge G} (hg:g.Ok) (ln:Nat->Nat):∀ (t:Ty) (x:t.D G),(view g t x).av g ln=va g t x
 | .int _,_ | .bool,_ | .str,_ | .list _,_ | .jH _,_ | .arr _ _,_ | .dB _,_=>rfl
 | .st i,x=>congrArg AV.agg (hg.view i x ln)
 | .ptr t,x=>congrArg AV.bV ((dc g ln (view g t x)).symm.trans ((congrArg AV.cells (tn hg ln t x)).trans (gm g t x)))
theorem gj {g:Ge G} (hg:g.Ok) (ln:Nat->Nat) (t:Ty) (x:t.D G):TV.aR g ln ((view g t x).cells g)=enc g t x:=by
 rw [<-dc,tn hg,gm]
def yL {α β:Type} (f:α->Option β):List α->Option (List β)
 | []=>some []
 | x::xs=>match f x with
  | some y=>(match yL f xs with | some ys=>some (y::ys) | none=>none)
  | none=>none
def pg (t:Ty) (cs:List (TV G)):TV G:=match t with
 | .st _=> .agg cs
 | .arr _ _=> .agg cs
 | _=>match cs with
  | [v]=>v
  | _=> .raw .any
def Yw (k:IntKind):TV G->Option Int
 | .int k' n=>if k=k' then some n else none
 | _=>none
def asB:TV G->Option Bool
 | .bool b=>some b
 | _=>none
def asS:TV G->Option (List UInt8)
 | .str b=>some b
 | _=>none
def TG (t:Ty) (f:List (TV G)->Option (t.D G)):TV G->Option (List (t.D G))
 | .bg u l=>if h:u=t then some (h▸l) else none
 | .oY es=>yL f es
 | _=>none
def ae6 {α:Type}:AV->Option (Option α)
 | .bx=>some none
 | _=>none
def Xp (t:Ty):TV G->Option (Option (List (t.D G)))
 | .fS u l=>if h:u=t then some (h▸l) else none
 | .bg u l=>if h:u=t then some (some (h▸l)) else none
 | .raw a=>ae6 a
 | _=>none
def asA {α:Type} (f:List (TV G)->Option α):TV G->Option α
 | .agg l=>f l
 | _=>none
def S8 (n:Nat) (t:Ty) (f:TV G->Option (t.D G)):TV G->Option (eJ n (t.D G))
 | .arr m u a=>if h:m=n/\u=t then some (h.1▸h.2▸a) else none
 | .agg l=>(match yL f l with
  | some m=>if h:m.length=n then some ⟨m,h⟩ else none
  | none=>none)
 | _=>none
def Xb {α:Type} (f:List (TV G)->Option α):TV G->Option α
 | .bV l=>f l
 | _=>none
def Wq {α:Type}:AV->Option (Option α)
 | .gA=>some none
 | _=>none
def S9 (t:Ty) (f:List (TV G)->Option (t.D G)):TV G->Option (Option (t.D G))
 | .dB u x=>if h:u=t then some (h▸x) else none
 | .bV l=>(match f l with | some x=>some (some x) | none=>none)
 | .raw a=>Wq a
 | _=>none
def wA (g:Ge G):(t:Ty)->TV G->Option (t.D G)
 | .int k=>Yw k
 | .bool=>asB
 | .str=>asS
 | .list t=>TG t fun cs=>wA g t (pg t cs)
 | .jH t=>Xp t
 | .st i=>asA (g.Xo i)
 | .arr n t=>S8 n t fun v=>wA g t (pg t [v])
 | .ptr t=>Xb fun cs=>wA g t (pg t cs)
 | .dB t=>S9 t fun cs=>wA g t (pg t cs)
theorem Jb {k:IntKind} {v:TV G} {x:Int} (h:Yw k v=some x):v= .int k x:=by
 cases v with
 | int k' n=>
  unfold Yw at h;dsimp only at h;split at h
  ·rename_i e;injection h with h;subst h;subst e;rfl
  ·cases h
 | _=>cases h
theorem Jc {v:TV G} {x:Bool} (h:asB v=some x):v= .bool x:=by
 cases v with
 | bool b=>injection h with h;subst h;rfl
 | _=>cases h
theorem Jd {v:TV G} {x:List UInt8} (h:asS v=some x):v= .str x:=by
 cases v with
 | str b=>injection h with h;subst h;rfl
 | _=>cases h
theorem Je {t:Ty} {f:List (TV G)->Option (t.D G)} {v:TV G} {x:List (t.D G)} (h:TG t f v=some x):v= .bg t x\/∃ es,v= .oY es/\yL f es=some x:=by
 cases v with
 | bg u l=>
  unfold TG at h;dsimp only at h;split at h
  ·rename_i e;subst e;injection h with h;subst h;exact .inl rfl
  ·cases h
 | oY es=>exact .inr ⟨es,rfl,h⟩
 | _=>cases h
theorem Jf {t:Ty} {v:TV G} {x:Option (List (t.D G))} (h:Xp t v=some x):v= .fS t x\/(∃ l,v= .bg t l/\x=some l)\/(v= .raw .bx/\x=none):=by
 cases v with
 | fS u l=>
  unfold Xp at h;dsimp only at h;split at h
  ·rename_i e;subst e;injection h with h;subst h;exact .inl rfl
  ·cases h
 | bg u l=>
  unfold Xp at h;dsimp only at h;split at h
  ·rename_i e;subst e;injection h with h;subst h;exact .inr (.inl ⟨l,rfl,rfl⟩)
  ·cases h
 | raw a=>
  cases a with
  | bx=>injection h with h;subst h;exact .inr (.inr ⟨rfl,rfl⟩)
  | _=>cases h
 | _=>cases h
theorem SN {α:Type} {f:List (TV G)->Option α} {v:TV G} {x:α} (h:asA f v=some x):∃ l,v= .agg l/\f l=some x:=by
 cases v with
 | agg l=>exact ⟨l,rfl,h⟩
 | _=>cases h
theorem tg {α β γ:Type} {f:α->Option β} {C:β->γ} {c:α->γ} (h:∀ x y,f x=some y->c x=C y):∀ {l:List α} {m:List β},yL f l=some m->l.map c=m.map C
 | [],m,e=>by simp only [yL,Option.some.injEq] at e;subst e;rfl
 | x::l,m,e=>by
  rw [yL] at e;split at e
  case h_2=>cases e
  rename_i y hy;split at e
  case h_2=>cases e
  rename_i ys hys;injection e with e;subst e
  simp only [List.map_cons,h _ _ hy,tg h hys]
theorem SO {n:Nat} {t:Ty} {f:TV G->Option (t.D G)} {v:TV G} {x:eJ n (t.D G)} (h:S8 n t f v=some x):v= .arr n t x\/∃ l,v= .agg l/\yL f l=some x.1:=by
 cases v with
 | arr m u a=>
  unfold S8 at h;dsimp only at h;split at h
  ·rename_i e;obtain ⟨rfl,rfl⟩:=e;injection h with h;subst h;exact .inl rfl
  ·cases h
 | agg l=>
  unfold S8 at h;dsimp only at h;split at h
  case h_2=>cases h
  rename_i m hm;split at h
  case isFalse=>cases h
  injection h with h;subst h
  exact .inr ⟨l,rfl,hm⟩
 | _=>cases h
theorem Jg {α:Type} {f:List (TV G)->Option α} {v:TV G} {x:α} (h:Xb f v=some x):∃ l,v= .bV l/\f l=some x:=by
 cases v with
 | bV l=>exact ⟨l,rfl,h⟩
 | _=>cases h
theorem Jh {t:Ty} {f:List (TV G)->Option (t.D G)} {v:TV G} {x:Option (t.D G)} (h:S9 t f v=some x):v= .dB t x\/(∃ l y,v= .bV l/\f l=some y/\x=some y)\/(v= .raw .gA/\x=none):=by
 cases v with
 | dB u y=>
  unfold S9 at h;dsimp only at h;split at h
  ·rename_i e;subst e;injection h with h;subst h;exact .inl rfl
  ·cases h
 | bV l=>
  unfold S9 at h;dsimp only at h;split at h
  case h_2=>cases h
  rename_i y hy;injection h with h
  exact .inr (.inl ⟨l,y,rfl,hy,h.symm⟩)
 | raw a=>
  cases a with
  | gA=>injection h with h;subst h;exact .inr (.inr ⟨rfl,rfl⟩)
  | _=>cases h
 | _=>cases h
theorem fB {t:Ty} {cs:List (TV G)} {g:Ge G} {x:t.D G} (h:wA g t (pg t cs)=some x):(pg t cs).cells g=cs:=by
 cases t with
 | st i=>rfl
 | int k=>
  match cs,h with
  | [v],h=>have:=Jb (v:=v) h;subst this;rfl
  | [],h=>cases h
  | _::_::_,h=>cases h
 | bool=>
  match cs,h with
  | [v],h=>have:=Jc (v:=v) h;subst this;rfl
  | [],h=>cases h
  | _::_::_,h=>cases h
 | str=>
  match cs,h with
  | [v],h=>have:=Jd (v:=v) h;subst this;rfl
  | [],h=>cases h
  | _::_::_,h=>cases h
 | list t=>
  match cs,h with
  | [v],h=>
   rcases Je (v:=v) h with e | ⟨es,e,_⟩<;>(subst e;rfl)
  | [],h=>cases h
  | _::_::_,h=>cases h
 | jH t=>
  match cs,h with
  | [v],h=>
   rcases Jf (v:=v) h with e | ⟨es,e,_⟩ | ⟨e,_⟩<;>(subst e;rfl)
  | [],h=>cases h
  | _::_::_,h=>cases h
 | arr n t=>rfl
 | ptr t=>
  match cs,h with
  | [v],h=>obtain ⟨l,e,_⟩:=Jg (v:=v) h;subst e;rfl
  | [],h=>cases h
  | _::_::_,h=>cases h
 | dB t=>
  match cs,h with
  | [v],h=>
   rcases Jh (v:=v) h with e | ⟨l,y,e,_⟩ | ⟨e,_⟩<;>(subst e;rfl)
  | [],h=>cases h
  | _::_::_,h=>cases h
theorem BU {g:Ge G} {ln:Nat->Nat} {t:Ty} {cs:List (TV G)} {x:t.D G} (h:wA g t (pg t cs)=some x) (h1:(pg t cs).av g ln=va g t x):TV.aR g ln cs=enc g t x:=by
 rw [<-gm,<-h1,dc,fB h]
theorem kU {g:Ge G} (hg:g.Ok) (ln:Nat->Nat):∀ (t:Ty) (v:TV G) (x:t.D G),wA g t v=some x->v.av g ln=va g t x
 | .int k,v,x,h=>by have:=Jb (x:=x) h;subst this;rfl
 | .bool,v,x,h=>by have:=Jc (x:=x) h;subst this;rfl
 | .str,v,x,h=>by have:=Jd (x:=x) h;subst this;rfl
 | .list t,v,x,h=>by
  rcases Je (x:=x) h with e | ⟨es,e,h⟩
  ·subst e;rfl
  ·subst e;show AV.ro _=AV.ro _;rw [bl,tg (c:=TV.aR g ln) (C:=enc g t) (fun cs y hy=>?_) h];have h1:=kU hg ln t _ _ hy;rw [<-fB hy,<-dc,h1,gm]
 | .jH t,v,x,h=>by
  rcases Jf (x:=x) h with e | ⟨l,e,e2⟩ | ⟨e,e2⟩<;>(subst e;try subst e2)<;>rfl
 | .st i,v,x,h=>by
  obtain ⟨l,e,h⟩:=SN (x:=x) h;subst e;exact congrArg AV.agg (hg.Xo i l x ln h)
 | .ptr t,v,x,h=>by
  obtain ⟨l,e,h'⟩:=Jg (x:=x) h;subst e;exact congrArg AV.bV (BU h' (kU hg ln t _ _ h'))
 | .dB t,v,x,h=>by
  rcases Jh (x:=x) h with e | ⟨l,y,e,h',e2⟩ | ⟨e,e2⟩
  ·subst e;rfl
  ·subst e;subst e2;exact congrArg AV.bV (BU h' (kU hg ln t _ _ h'))
  ·subst e;subst e2;rfl
 | .arr n t,v,x,h=>by
  rcases SO (x:=x) h with e | ⟨l,e,h'⟩
  ·subst e;rfl
  ·subst e;show AV.agg _=AV.agg _;congr 1;have h2:l.map (fun v=>TV.aR g ln [v])=List.map (enc g t) x.1:=tg (f:=fun v=>wA g t (pg t [v])) (fun v y hy=>by
    have h1:=kU hg ln t _ _ hy;have h3:=fB hy;show TV.aR g ln [v]=_;rw [<-h3,<-dc,h1,gm]) h'
   rw [<-h2,bX];induction l with
   | nil=>rfl
   | cons y l _=>
    have:∀ l:List (TV G),l.map (TV.av g ln)=(l.map fun v=>TV.aR g ln [v]).flatten:=by
     intro l;induction l with
     | nil=>rfl
     | cons y l ih=>rw [List.map_cons,List.map_cons,List.flatten_cons,<-ih];rfl
    exact this _
theorem zR {g:Ge G} (hg:g.Ok) {ln:Nat->Nat} {t:Ty} {v:TV G} {x:t.D G} (h:wA g t v=some x):TV.aR g ln (v.cells g)=enc g t x:=by
 rw [<-dc,kU hg ln t v x h,gm]
def TO.len:TO G->Nat
 | .bg _ _ l=>l.length
 | .cN _ _ es=>es.length
 | .mix _ _ l es=>l.length+es.length
 | _=>0
def jD (H:List (TO G)) (id:Nat):Nat:=match H[id]? with
 | some o=>o.len
 | none=>0
def dx (g:Ge G) (ln:Nat->Nat) (l:List (Nat×TV G)):List (Nat×AV):=l.map fun p=>(p.1,p.2.av g ln)
def TO.av (g:Ge G) (ln:Nat->Nat) (F:List (T×C3)):TO G->Obj
 | .box l=> .live .norm l.length [TV.aR g ln l]
 | .bg fl t l=> .live fl (t.n g) (l.map (enc g t))
 | .cN fl sz es=> .live fl sz (TV.cU g ln es)
 | .mix fl t l es=> .live fl (t.n g) (l.map (enc g t)++TV.cU g ln es)
 | .arr n t a=> .live .norm (n*t.n g) [(List.map (enc g t) a.1).flatten]
 | .dead=> .dead
 | .gB=> .gB
 | .lp s fi=>(match F[fi]? with | some f=> .lp s f.1.toL f.2.1 f.2.2.1 f.2.2.2 | none=> .dead)
 | .fQ l=> .mp (l.map fun p=>(.str p.1,.int .i64 p.2))
 | .wC s p=> .it s p.toNat
def DS.ln (s:DS G):Nat->Nat:=jD s.H
def DS.FR (g:Ge G) (s:DS G):List (T×C3):=s.fr.map fun f=>(⟨f.1,dx g s.ln f.2.1⟩,f.2.2)
def DS.tm (g:Ge G) (s:DS G):T:=⟨s.sz,dx g s.ln s.sl⟩
def DS.Hv (g:Ge G) (s:DS G):List Obj:=s.H.map (TO.av g s.ln (s.FR g))
def DS.st (g:Ge G) (s:DS G):ST:=⟨s.tm g,s.Hv g⟩
def C4:List (Nat×TV G)->Nat->TV G
 | [],_=> .raw .any
 | (k,v)::r,n=>if k=n then v else C4 r n
def HB:List (Nat×TV G)->Nat->TV G->List (Nat×TV G)
 | [],n,x=>[(n,x)]
 | (k,v)::r,n,x=>if k=n then (n,x)::r else if n < k then (n,x)::(k,v)::r else (k,v)::HB r n x
def CX:List (Nat×TV G)->Nat->List (Nat×TV G)
 | [],_=>[]
 | (k,v)::r,n=>if k=n then CX r n else (k,v)::CX r n
theorem zS (g:Ge G) (ln:Nat->Nat):∀ (l:List (Nat×TV G)) (n:Nat),T.eK (dx g ln l) n=(C4 l n).av g ln
 | [],_=>rfl
 | (k,v)::r,n=>by
  show (if k=n then _ else T.eK (dx g ln r) n)=_;rw [zS g ln r n,C4];split<;>rfl
theorem zT (g:Ge G) (ln:Nat->Nat):∀ (l:List (Nat×TV G)) (n:Nat) (x:TV G),T.qP (dx g ln l) n (x.av g ln)=dx g ln (HB l n x)
 | [],_,_=>rfl
 | (k,v)::r,n,x=>by
  show (if k=n then _ else if n < k then _ else (k,v.av g ln)::T.qP (dx g ln r) n _)=_;rw [zT g ln r n x,HB];split
  ·rfl
  split<;>rfl
theorem EM (g:Ge G) (ln:Nat->Nat):∀ (l:List (Nat×TV G)) (n:Nat),T.lT (dx g ln l) n=dx g ln (CX l n)
 | [],_=>rfl
 | (k,v)::r,n=>by
  show (if k=n then T.lT (dx g ln r) n else (k,v.av g ln)::T.lT (dx g ln r) n)=_;rw [EM g ln r n,CX];split<;>rfl
def DS.get (s:DS G) (n:Nat):TV G:=C4 s.sl n
def DS.put (s:DS G) (n:Nat) (v:TV G):DS G:=if n < s.sz then ⟨s.sz,HB s.sl n v,s.H,s.fr⟩ else s
def DS.cP (s:DS G) (d:Option Nat) (v:TV G):DS G:=match d with
 | some d=>s.put d v
 | none=>s
theorem DS.gG (g:Ge G) (s:DS G) (n:Nat):(s.tm g).get n=(s.get n).av g s.ln:=zS g s.ln s.sl n
theorem DS.Pr (s:DS G) (n:Nat) (v:TV G):(s.put n v).H=s.H:=by unfold DS.put;split<;>rfl
theorem DS.SP (s:DS G) (n:Nat) (v:TV G):(s.put n v).fr=s.fr:=by unfold DS.put;split<;>rfl
theorem DS.qV (g:Ge G) (s:DS G) (n:Nat) (v:TV G):(s.put n v).FR g=s.FR g:=by unfold DS.FR DS.ln;rw [DS.Pr,DS.SP]
theorem DS.ur (g:Ge G) (s:DS G) (n:Nat) (v:TV G):(s.put n v).Hv g=s.Hv g:=by unfold DS.Hv;rw [DS.qV];unfold DS.ln;rw [DS.Pr]
theorem DS.qW (g:Ge G) (s:DS G) (n:Nat) (v:TV G):(s.put n v).tm g=(s.tm g).put n (v.av g s.ln):=by
 unfold DS.put As.T.put;show _=if n < s.sz then _ else _
 split
 ·show (⟨_,_⟩:T)=⟨_,_⟩;rw [show (s.tm g).l=dx g s.ln s.sl from rfl,zT];rfl
 ·rfl
theorem DS.pY (g:Ge G) (s:DS G) (d:Option Nat) (v:TV G):(s.cP d v).Hv g=s.Hv g:=by cases d with | none=>rfl | some d=>exact DS.ur g s d v
theorem DS.nh (g:Ge G) (s:DS G) (d:Option Nat) (v:TV G):(s.cP d v).FR g=s.FR g:=by cases d with | none=>rfl | some d=>exact DS.qV g s d v
theorem DS.ni (g:Ge G) (s:DS G) (d:Option Nat) (v:TV G):(s.cP d v).tm g=As.cP (s.tm g) d (v.av g s.ln):=by cases d with | none=>rfl | some d=>exact DS.qW g s d v
mutual
def sV:AV->TV G
 | .int k n=> .int k n
 | .bool b=> .bool b
 | .str s=> .str s
 | .agg l=> .agg (gV l)
 | .fn f l=> .fn f (gV l)
 | .bV l=> .bV (gV l)
 | .bk l=> .bk (gV l)
 | v=> .raw v
def gV:List AV->List (TV G)
 | []=>[]
 | x::xs=>sV x::gV xs
end
mutual
theorem tL (g:Ge G) (ln:Nat->Nat):∀ v:AV,(sV v:TV G).av g ln=v
 | .int k n=>rfl
 | .bool b=>rfl
 | .str s=>rfl
 | .agg l=>by rw [sV,TV.av,gk g ln l]
 | .fn f l=>by rw [sV,TV.av,gk g ln l]
 | .bV l=>by rw [sV,TV.av,gk g ln l]
 | .bk l=>by rw [sV,TV.av,gk g ln l]
 | .any | .gA | .bx | .jX | .lZ | .oo | .eI _ | .mp _ | .oZ _ | .ro _ | .own .. | .ax .. | .bL .. | .arr ..=>rfl
theorem gk (g:Ge G) (ln:Nat->Nat):∀ l:List AV,TV.aR g ln (gV l:List (TV G))=l
 | []=>rfl
 | x::l=>by rw [gV,TV.aR,tL g ln x,gk g ln l]
end
def DS.rx (gl:Nat->List AV) (s:DS G):RX->TV G
 | .t n=>s.get n
 | .c v=>sV v
 | .g n=> .bV (gV (gl n))
theorem DS.lI (g:Ge G) (gl:Nat->List AV) (s:DS G):∀ x:RX,fI gl (s.tm g) x=(s.rx gl x).av g s.ln
 | .t n=>DS.gG g s n
 | .c v=>(tL g s.ln v).symm
 | .g n=>by show AV.bV _=AV.bV _;rw [gk]
theorem DS.gf (g:Ge G) (gl:Nat->List AV) (s:DS G) (l:List RX):l.map (fI gl (s.tm g))=TV.aR g s.ln (l.map (s.rx gl)):=by
 rw [bX,List.map_map];exact List.map_congr_left fun x _=>DS.lI g gl s x
mutual
def TV.ir (id n:Nat):TV G->TV G
 | .oY es=> .oY (TV.jQ id n es)
 | .agg l=> .agg (TV.jd id n l)
 | .bk l=> .bk (TV.jd id n l)
 | .bV l=> .bV (TV.jd id n l)
 | .fn f l=> .fn f (TV.jd id n l)
 | .own j=>if j=id then .raw (.own j n 0 n) else .own j
 | .pe j i o=>if j=id then .raw (.ax j n i.toNat o) else .pe j i o
 | v=>v
def TV.jd (id n:Nat):List (TV G)->List (TV G)
 | []=>[]
 | x::xs=>x.ir id n::TV.jd id n xs
def TV.jQ (id n:Nat):List (List (TV G))->List (List (TV G))
 | []=>[]
 | x::xs=>TV.jd id n x::TV.jQ id n xs
end
mutual
theorem qx {g:Ge G} {ln cj:Nat->Nat} {id:Nat} (h:∀ j,j≠id->cj j=ln j):∀ v:TV G,(v.ir id (ln id)).av g cj=v.av g ln
 | .int _ _ | .bool _ | .str _ | .bg _ _ | .fS _ _ | .po _ _ | .pa .. | .sa .. | .arr .. | .dB .. | .raw _=>rfl
 | .oY es=>by rw [TV.ir,TV.av,TV.av,lq h es]
 | .agg l=>by rw [TV.ir,TV.av,TV.av,gJ h l]
 | .bk l=>by rw [TV.ir,TV.av,TV.av,gJ h l]
 | .bV l=>by rw [TV.ir,TV.av,TV.av,gJ h l]
 | .fn f l=>by rw [TV.ir,TV.av,TV.av,gJ h l]
 | .own j=>by
  rw [TV.ir];split
  ·rename_i e;subst e;rfl
  ·rename_i e;rw [TV.av,TV.av,h j e]
 | .pe j i o=>by
  rw [TV.ir];split
  ·rename_i e;subst e;rfl
  ·rename_i e;rw [TV.av,TV.av,h j e]
theorem gJ {g:Ge G} {ln cj:Nat->Nat} {id:Nat} (h:∀ j,j≠id->cj j=ln j):∀ l:List (TV G),TV.aR g cj (TV.jd id (ln id) l)=TV.aR g ln l
 | []=>rfl
 | x::l=>by rw [TV.jd,TV.aR,TV.aR,qx h x,gJ h l]
theorem lq {g:Ge G} {ln cj:Nat->Nat} {id:Nat} (h:∀ j,j≠id->cj j=ln j):∀ l:List (List (TV G)),TV.cU g cj (TV.jQ id (ln id) l)=TV.cU g ln l
 | []=>rfl
 | x::l=>by rw [TV.jQ,TV.cU,TV.cU,gJ h x,lq h l]
end
def oI (id n:Nat) (l:List (Nat×TV G)):List (Nat×TV G):=l.map fun p=>(p.1,p.2.ir id n)
def TO.ir (id n:Nat):TO G->TO G
 | .box l=> .box (TV.jd id n l)
 | .cN fl sz es=> .cN fl sz (TV.jQ id n es)
 | .mix fl t l es=> .mix fl t l (TV.jQ id n es)
 | o=>o
def DS.ir (s:DS G) (id:Nat):DS G:=
 let n:=s.ln id
 ⟨s.sz,oI id n s.sl,s.H.map (TO.ir id n),s.fr.map fun f=>(f.1,oI id n f.2.1,f.2.2)⟩
theorem wj (id n:Nat):∀ l:List (TV G),(TV.jd id n l).length=l.length
 | []=>rfl
 | x::l=>by rw [TV.jd,List.length_cons,wj id n l];rfl
theorem mX (id n:Nat):∀ l:List (List (TV G)),(TV.jQ id n l).length=l.length
 | []=>rfl
 | x::l=>by rw [TV.jQ,List.length_cons,mX id n l];rfl
theorem yj {g:Ge G} {ln cj:Nat->Nat} {id:Nat} (h:∀ j,j≠id->cj j=ln j) (l:List (Nat×TV G)):dx g cj (oI id (ln id) l)=dx g ln l:=by
 unfold dx oI;rw [List.map_map];exact List.map_congr_left fun p _=>by show (p.1,_)=(p.1,_);rw [qx h]
theorem TO.qx {g:Ge G} {ln cj:Nat->Nat} {F:List (T×C3)} {id:Nat} (h:∀ j,j≠id->cj j=ln j) (o:TO G):(o.ir id (ln id)).av g cj F=o.av g ln F:=by
 cases o with
 | box l=>show Obj.live _ _ _=Obj.live _ _ _;rw [wj,gJ h]
 | cN fl sz es=>show Obj.live _ _ _=Obj.live _ _ _;rw [lq h]
 | mix fl t l es=>show Obj.live _ _ _=Obj.live _ _ _;rw [lq h]
 | _=>rfl
theorem TO.GB (id n:Nat) (o:TO G):(o.ir id n).len=o.len:=by
 cases o with
 | cN fl sz es=>exact mX id n es
 | mix fl t l es=>show l.length+_=l.length+_;rw [mX]
 | _=>rfl
def DS.dy (s:DS G) (id:Nat) (o:TO G):DS G:=
 let n:=s.ln id
 ⟨s.sz,oI id n s.sl,(s.H.map (TO.ir id n)).set id o,s.fr.map fun f=>(f.1,oI id n f.2.1,f.2.2)⟩
theorem p0 (s:DS G) (id:Nat) (o:TO G):∀ j,j≠id->(s.dy id o).ln j=s.ln j:=by
 intro j hj;unfold DS.ln jD DS.dy;dsimp only;rw [List.getElem?_set_ne (Ne.symm hj),List.getElem?_map]
 cases s.H[j]? with
 | none=>rfl
 | some o=>exact TO.GB _ _ o
theorem Fu (g:Ge G) (s:DS G) (id:Nat) (o:TO G):(s.dy id o).FR g=s.FR g:=by
 unfold DS.FR;show (s.fr.map _).map _=_;rw [List.map_map];refine List.map_congr_left fun f _=>?_
 show ((⟨f.1,_⟩:T),f.2.2)=(⟨f.1,_⟩,f.2.2);rw [yj (p0 s id o)]
theorem SG (g:Ge G) (s:DS G) (id:Nat) (o:TO G):(s.dy id o).tm g=s.tm g:=by
 show (⟨s.sz,_⟩:T)=⟨s.sz,_⟩;rw [show (s.dy id o).sl=oI id (s.ln id) s.sl from rfl,yj (p0 s id o)]
theorem N6 (g:Ge G) (s:DS G) (id:Nat) (o:TO G):(s.dy id o).Hv g=(s.Hv g).set id (o.av g (s.dy id o).ln (s.FR g)):=by
 unfold DS.Hv;rw [Fu];show ((s.H.map _).set id o).map _=_;rw [List.map_set,List.map_map];congr 1;exact List.map_congr_left fun o' _=>TO.qx (p0 s id o) o'
def DS.hN (s:DS G) (id:Nat) (o:TO G):DS G:=⟨s.sz,s.sl,s.H.set id o,s.fr⟩
theorem tK {s:DS G} {id:Nat} {o:TO G} (h:o.len=s.ln id):(s.hN id o).ln=s.ln:=by
 funext j
 unfold DS.ln jD DS.hN;by_cases e:j=id
 ·subst e;dsimp only;unfold DS.ln jD at h;by_cases hl:j < s.H.length
  ·rw [List.getElem?_set_self hl];exact h
  ·rw [List.set_eq_of_length_le (by omega)]
 ·rw [List.getElem?_set_ne (Ne.symm e)]
theorem Ft {g:Ge G} {s:DS G} {id:Nat} {o:TO G} (h:o.len=s.ln id):(s.hN id o).FR g=s.FR g:=by
 unfold DS.FR;rw [tK h];rfl
theorem SF {g:Ge G} {s:DS G} {id:Nat} {o:TO G} (h:o.len=s.ln id):(s.hN id o).tm g=s.tm g:=by
 unfold DS.tm;rw [tK h];rfl
theorem N5 {g:Ge G} {s:DS G} {id:Nat} {o:TO G} (h:o.len=s.ln id):(s.hN id o).Hv g=(s.Hv g).set id (o.av g s.ln (s.FR g)):=by
 unfold DS.Hv;rw [Ft h,tK h];show (s.H.set id o).map _=_;rw [List.map_set]
mutual
def TV.AR (id:Nat):TV G->Bool
 | .oY es=>TV.iz id es
 | .agg l=>TV.kX id l
 | .bk l=>TV.kX id l
 | .bV l=>TV.kX id l
 | .fn _ l=>TV.kX id l
 | .own j=> !Nat.beq j id
 | .pe j _ _=> !Nat.beq j id
 | _=>true
def TV.kX (id:Nat):List (TV G)->Bool
 | []=>true
 | x::xs=>x.AR id&&TV.kX id xs
def TV.iz (id:Nat):List (List (TV G))->Bool
 | []=>true
 | x::xs=>TV.kX id x&&TV.iz id xs
end
mutual
theorem BV {g:Ge G} {ln cj:Nat->Nat} {id:Nat} (h:∀ j,j≠id->cj j=ln j):∀ v:TV G,v.AR id=true->v.av g cj=v.av g ln
 | .int _ _,_ | .bool _,_ | .str _,_ | .bg _ _,_ | .fS _ _,_ | .po _ _,_ | .pa ..,_ | .sa ..,_ | .arr ..,_ | .dB ..,_ | .raw _,_=>rfl
 | .oY es,e=>by rw [TV.av,TV.av,fG h es e]
 | .agg l,e=>by rw [TV.av,TV.av,gL h l e]
 | .bk l,e=>by rw [TV.av,TV.av,gL h l e]
 | .bV l,e=>by rw [TV.av,TV.av,gL h l e]
 | .fn f l,e=>by rw [TV.av,TV.av,gL h l e]
 | .own j,e=>by
  have hj:j≠id:=by
   rintro rfl;simp [TV.AR] at e
  rw [TV.av,TV.av,h j hj]
 | .pe j i o,e=>by
  have hj:j≠id:=by
   rintro rfl;simp [TV.AR] at e
  rw [TV.av,TV.av,h j hj]
theorem gL {g:Ge G} {ln cj:Nat->Nat} {id:Nat} (h:∀ j,j≠id->cj j=ln j):∀ l:List (TV G),TV.kX id l=true->TV.aR g cj l=TV.aR g ln l
 | [],_=>rfl
 | x::l,e=>by
  simp only [TV.kX,Bool.and_eq_true] at e;rw [TV.aR,TV.aR,BV h x e.1,gL h l e.2]
theorem fG {g:Ge G} {ln cj:Nat->Nat} {id:Nat} (h:∀ j,j≠id->cj j=ln j):∀ l:List (List (TV G)),TV.iz id l=true->TV.cU g cj l=TV.cU g ln l
 | [],_=>rfl
 | x::l,e=>by
  simp only [TV.iz,Bool.and_eq_true] at e;rw [TV.cU,TV.cU,gL h x e.1,fG h l e.2]
end
def oJ (id:Nat):List (Nat×TV G)->Bool
 | []=>true
 | p::r=>p.2.AR id&&oJ id r
def je (id:Nat):List (TO G)->Bool
 | []=>true
 | .box l::r=>TV.kX id l&&je id r
 | .cN _ _ es::r=>TV.iz id es&&je id r
 | .mix _ _ _ es::r=>TV.iz id es&&je id r
 | _::r=>je id r
def rq (id:Nat):List (Nat×List (Nat×TV G)×C3)->Bool
 | []=>true
 | f::r=>oJ id f.2.1&&rq id r
theorem r7 {g:Ge G} {ln cj:Nat->Nat} {id:Nat} (h:∀ j,j≠id->cj j=ln j):∀ l:List (Nat×TV G),oJ id l=true->dx g cj l=dx g ln l
 | [],_=>rfl
 | p::l,e=>by
  simp only [oJ,Bool.and_eq_true] at e;show (p.1,_)::dx g cj l=(p.1,_)::dx g ln l;rw [BV h _ e.1,r7 h l e.2]
theorem kI {g:Ge G} {ln cj:Nat->Nat} {F:List (T×C3)} {id:Nat} (h:∀ j,j≠id->cj j=ln j):∀ l:List (TO G),je id l=true->l.map (TO.av g cj F)=l.map (TO.av g ln F)
 | [],_=>rfl
 | .box l::r,e=>by
  simp only [je,Bool.and_eq_true] at e;show Obj.live _ _ _::r.map _=Obj.live _ _ _::r.map _;rw [gL h _ e.1,kI h r e.2]
 | .cN _ _ es::r,e=>by
  simp only [je,Bool.and_eq_true] at e;show Obj.live _ _ _::r.map _=Obj.live _ _ _::r.map _;rw [fG h _ e.1,kI h r e.2]
 | .mix _ _ _ es::r,e=>by
  simp only [je,Bool.and_eq_true] at e;show Obj.live _ _ _::r.map _=Obj.live _ _ _::r.map _;rw [fG h _ e.1,kI h r e.2]
 | .bg ..::r,e | .arr ..::r,e | .dead::r,e | .gB::r,e | .lp ..::r,e | .fQ ..::r,e | .wC ..::r,e=>by
  show _::r.map _=_::r.map _;rw [kI h r e];rfl
theorem yl {g:Ge G} {ln cj:Nat->Nat} {id:Nat} (h:∀ j,j≠id->cj j=ln j):∀ l:List (Nat×List (Nat×TV G)×C3),rq id l=true->(l.map fun f=>((⟨f.1,dx g cj f.2.1⟩:T),f.2.2))=l.map fun f=>(⟨f.1,dx g ln f.2.1⟩,f.2.2)
 | [],_=>rfl
 | f::r,e=>by
  simp only [rq,Bool.and_eq_true] at e;show ((⟨f.1,_⟩:T),f.2.2)::r.map _=(⟨f.1,_⟩,f.2.2)::r.map _;rw [r7 h _ e.1,yl h r e.2]
def DS.dY (s:DS G) (pl:Nat) (o:TO G):DS G:=⟨s.sz,s.sl,if pl < s.H.length then s.H.set pl o else s.H++[o],s.fr⟩
def DS.fits (s:DS G) (pl:Nat) (o:TO G):Bool:=Nat.ble pl s.H.length&&match o with
 | .bg ..=>oJ pl s.sl&&(je pl s.H&&rq pl s.fr)
 | .cN _ _ es=>oJ pl s.sl&&(je pl s.H&&rq pl s.fr)&&TV.iz pl es
 | .mix ..=>false
 | _=>jD s.H pl==0
theorem zQ {s:DS G} {pl:Nat} (hp:pl<=s.H.length) (o:TO G):∀ j,j≠pl->(s.dY pl o).ln j=s.ln j:=by
 intro j hj;unfold DS.ln jD DS.dY;dsimp only;by_cases hl:pl < s.H.length
 ·rw [if_pos hl,List.getElem?_set_ne (Ne.symm hj)]
 ·rw [if_neg hl];by_cases h:j < s.H.length
  ·rw [List.getElem?_append_left h]
  ·have e1:(s.H++[o])[j]?=none:=List.getElem?_eq_none (by simp;omega);have e2:s.H[j]?=none:=List.getElem?_eq_none (by omega);rw [e1,e2]
theorem uV {s:DS G} {pl:Nat} (hp:pl<=s.H.length) {o:TO G} (h:o.len=0) (h0:jD s.H pl=0):(s.dY pl o).ln=s.ln:=by
 funext j
 by_cases hj:j=pl
 ·subst hj;show jD _ j=jD s.H j;rw [h0];unfold jD DS.dY;dsimp only;by_cases hl:j < s.H.length
  ·rw [if_pos hl,List.getElem?_set_self hl];exact h
  ·rw [if_neg hl];have:j=s.H.length:=by omega
   subst this;rw [List.getElem?_append_right (by omega)];simp [h]
 ·exact zQ hp o j hj
theorem fq {g:Ge G} {s:DS G} {pl:Nat} {o:TO G} (h:s.fits pl o=true):(s.dY pl o).tm g=s.tm g/\(s.dY pl o).FR g=s.FR g/\(s.dY pl o).Hv g=putObj (s.Hv g) pl (o.av g (s.dY pl o).ln (s.FR g)):=by
 unfold DS.fits at h;rw [Bool.and_eq_true] at h;have hp:pl<=s.H.length:=Nat.le_of_ble_eq_true h.1;have k1:=zQ hp o;have k2:(s.dY pl o).ln=s.ln\/(oJ pl s.sl&&(je pl s.H&&rq pl s.fr))=true:=by
  have h2:=h.2
  cases o with
  | bg fl t l=>exact .inr h2
  | cN fl sz es=>exact .inr ((Bool.and_eq_true _ _).mp h2).1
  | mix fl t l es=>cases h2
  | _=>exact .inl (uV hp rfl (by simpa using h2))
 have hT:(s.dY pl o).tm g=s.tm g:=by
  show (⟨s.sz,dx g _ s.sl⟩:T)=⟨s.sz,dx g _ s.sl⟩;rcases k2 with e | e
  ·rw [e]
  ·simp only [Bool.and_eq_true] at e;rw [r7 k1 _ e.1]
 have hF:(s.dY pl o).FR g=s.FR g:=by
  unfold DS.FR;rcases k2 with e | e
  ·rw [e];rfl
  ·simp only [Bool.and_eq_true] at e;exact yl k1 _ e.2.2
 refine ⟨hT,hF,?_⟩;have hH:s.H.map (TO.av g (s.dY pl o).ln (s.FR g))=s.H.map (TO.av g s.ln (s.FR g)):=by
  rcases k2 with e | e
  ·rw [e]
  ·simp only [Bool.and_eq_true] at e;exact kI k1 _ e.2.1
 unfold DS.Hv;rw [hF];show (if pl < s.H.length then s.H.set pl o else s.H++[o]).map _=putObj _ _ _;unfold putObj;rw [List.length_map];split
 ·rw [List.map_set,hH]
 ·rw [List.map_append,hH];rfl
theorem fZ (g:Ge G) (s:DS G):(s.Hv g).length=s.H.length:=by simp [DS.Hv]
theorem bp {g:Ge G} {s:DS G} {id:Nat} {o:TO G} (h:s.H[id]?=some o):(s.Hv g)[id]?=some (o.av g s.ln (s.FR g)):=by
 unfold DS.Hv;rw [List.getElem?_map,h];rfl
end
end nT
end
