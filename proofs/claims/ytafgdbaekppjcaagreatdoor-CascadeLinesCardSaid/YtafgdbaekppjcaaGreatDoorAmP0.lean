/- Parts of my machine and its laws, joined: AmP0 AmWr. No condition. -/
import Derived.Calls
import Derived.Test.YtafgdbaekppjcaaGreatDoorAmWp
import Derived.KernelRfl
set_option linter.unusedSectionVars false
set_option linter.unusedVariables false
set_option linter.unusedSimpArgs false
section
namespace Go.Pl
def addI (k:IntKind) (x y:Int):Int:=k.wrap (x+y)
def subI (k:IntKind) (x y:Int):Int:=k.wrap (x - y)
def mulI (k:IntKind) (x y:Int):Int:=k.wrap (x*y)
def idx {α:Type} (l:List α) (i:Int):Option α:=if 0≤i then l[i.toNat]? else none
def appc {α:Type} (bytes:Nat) (l m:List α):Option (List α):=if (l.length+m.length)*bytes≤2 ^ 40∧l.length+m.length≤2 ^ 40 then some (l++m) else none
def mkc {α:Type} (bytes:Nat) (n:Int) (z:α):Option (List α):=if 0≤n∧n*bytes≤2 ^ 40∧n≤2 ^ 40 then some (List.replicate n.toNat z) else none
def slcc {α:Type} (l:List α) (lo hi:Option Int):Option (List α):=
 if 0≤lo.getD 0∧lo.getD 0≤hi.getD l.length∧hi.getD l.length≤l.length then some ((l.drop (lo.getD 0).toNat).take ((hi.getD l.length).toNat - (lo.getD 0).toNat)) else none
def quoc (k:IntKind) (x y:Int):Option Int:=if y=0 then none else some (k.wrap (x.tdiv y))
def remc (x y:Int):Option Int:=if y=0 then none else some (x.tmod y)
def shlc (k:IntKind) (x y:Int):Option Int:=if y < 0 then none else some (k.wrap (x*2 ^ (min y.toNat k.bits)))
def shrc (k:IntKind) (x y:Int):Option Int:=if y < 0 then none else some (x.fdiv (2 ^ (min y.toNat k.bits)))
def andI (k:IntKind) (x y:Int):Int:=k.wrap ((BitVec.ofInt k.bits x)&&& (BitVec.ofInt k.bits y)).toNat
def orI (k:IntKind) (x y:Int):Int:=k.wrap ((BitVec.ofInt k.bits x)||| (BitVec.ofInt k.bits y)).toNat
def catc (x y:List UInt8):Option (List UInt8):=if x.length+y.length≤2 ^ 40 then some (x++y) else none
def minI (x y:Int):Int:=if y < x then y else x
def maxI (x y:Int):Int:=if y > x then y else x
def nilQ {α:Type}:Option (List α)→Option Bool
 | none=>some true
 | some []=>none
 | some (_::_)=>some false
def nonE {α:Type}:List α→Option Unit
 | []=>none
 | _::_=>some ()
def Arr (n:Nat) (α:Type):Type:={ l:List α // l.length=n }
def Arr.put {n:Nat} {α:Type} (a:Arr n α) (i:Nat) (x:α):Arr n α:=⟨a.1.set i x,by simp [a.2]⟩
def Arr.rep (n:Nat) {α:Type} (x:α):Arr n α:=⟨List.replicate n x,by simp⟩
theorem Arr.len {n:Nat} {α:Type} (a:Arr n α):a.1.length=n:=a.2
def Arr.at {n:Nat} {α:Type} [Inhabited α] (a:Arr n α) (k:Nat):α:=a.1.getD k default
def aidx {n:Nat} {α:Type} (a:Arr n α) (i:Int):Option α:=idx a.1 i
def iterN {σ ρ:Type} (body:σ→Option (σ⊕ρ)):Nat→σ→Option ρ
 | 0,_=>none
 | n+1,s=>match body s with
  | none=>none
  | some (.inl s')=>iterN body n s'
  | some (.inr r)=>some r
def fuel:Nat:=18446744073709551616
def iter {σ ρ:Type} (body:σ→Option (σ⊕ρ)) (s:σ):Option ρ:=iterN body fuel s
theorem bind_some {α β:Type} {m:Option α} {f:α→Option β} {r:β} (h:m.bind f=some r):∃ v,m=some v∧f v=some r:=by
 cases m with
 | none=>simp at h
 | some v=>exact ⟨v,rfl,h⟩
theorem map_some {α β:Type} {m:Option α} {f:α→β} {r:β} (h:m.map f=some r):∃ v,m=some v∧f v=r:=by
 cases m with
 | none=>simp at h
 | some v=>exact ⟨v,rfl,by simpa using h⟩
theorem iter_rule {σ ρ:Type} {body:σ→Option (σ⊕ρ)} (I:σ→Prop) (m:σ→Nat) (Q:ρ→Prop) {s:σ} (h0:I s) (hf:m s < fuel)
 (h:∀ s,I s→(∃ s',body s=some (.inl s')∧I s'∧m s' < m s)∨∃ r,body s=some (.inr r)∧Q r):∃ r,iter body s=some r∧Q r:=by
 have key:∀ n s,I s→m s < n→∃ r,iterN body n s=some r∧Q r:=by
  intro n
  induction n with
  | zero=>intro s _ hlt;omega
  | succ n ih=>
   intro s hi hlt
   rcases h s hi with ⟨s',hb,hi',hm⟩ | ⟨r,hb,hq⟩
   ·obtain ⟨r,h1,h2⟩:=ih s' hi' (by omega)
    exact ⟨r,by rw [iterN,hb];exact h1,h2⟩
   ·exact ⟨r,by rw [iterN,hb],hq⟩
 exact key fuel s h0 hf
end Go.Pl
end
section
namespace Go.Am
abbrev AV.i (n:Int):AV:= .int .i64 n
abbrev AV.po (id o:Nat):AV:= .pown id 1 0 o
abbrev Obj.lv (n:Nat) (cs:List AV):Obj:= .live .norm n [cs]
end Go.Am
namespace Go.Am.As
open Go.Pl
def W (E:Env) (hp:Nat→Bool) (c:RC) (b:Nat) (N:ST→Prop) (X:Nat→ST→Prop) (R:ST→Prop) (s:ST):Prop:=
 WP E hp c b (fun e s'=>match e with | .normal=>N s' | .exit i=>X i s' | .ret=>R s') s
section
variable {E:Env} {hp:Nat→Bool} {b:Nat} {N:ST→Prop} {X:Nat→ST→Prop} {R:ST→Prop} {s:ST}
theorem W.mono {c:RC} {N' X' R'} (h:W E hp c b N X R s) (hn:∀ s,N s→N' s) (hx:∀ i s,X i s→X' i s) (hr:∀ s,R s→R' s):W E hp c b N' X' R' s:=
 WP.mono h fun e s' q=>by cases e with | normal=>exact hn _ q | exit i=>exact hx _ _ q | ret=>exact hr _ q
theorem belss_mapn {α:Type} {C:α→List AV} (h:∀ x,AV.bels 0 (C x)=true) (n:Nat):∀ l:List α,AV.belss n (l.map C)=true
 | []=>rfl
 | x::l=>by simp [AV.belss,bels_mono (Nat.zero_le n) _ (h x),belss_mapn h n l]
variable {dr:Bool} {t:T} {H:List Obj} {K:T→List Obj→Prop}
variable {d:Option Nat} {g:Option (Nat×Bool)} {os:List ROp}
theorem WC_inl {f:Nat} {xs:List AV} {K:AV→List Obj→Prop} {na nt:Nat} {rs:List (Sum Nat (Nat×Nat×Bool))} {body:RC} (hfn:E.fns f=some ⟨na,nt,rs,body⟩) (hf:hp f=true∨snaps H xs=none) (hn:xs.length=na) (hm:na≤nt)
 (h:WP E hp body H.length (fun e s'=>match e with | .exit _=>False | _=>∃ l,resultsT rs s'=some l∧K (oneOf l) s'.H) ⟨⟨nt,T.puts xs 0⟩,H⟩):WC E hp false f xs H K:=by
 obtain ⟨n,e,s',h,hq⟩:=h
 have key:∀ {l:List AV},resultsT rs s'=some l→(e= .normal∨e= .ret)→doCall (bif false then fun _=>false else hp) (cIT E.fns (execT E hp n)) (bif false then fun _ _ _=>none else cHT E.fns (execT E hp n)) f xs H=some (oneOf l,s'.H):=by
  intro l hl he
  have hc:cHT E.fns (execT E hp n) f xs H=some (oneOf l,s'.H):=by
   simp only [cHT,hfn,hn,hm,and_self,if_true]
   have hst:startT (⟨na,nt,rs,body⟩:RF) xs=⟨nt,T.puts xs 0⟩:=rfl
   rw [hst,h]
   rcases he with rfl | rfl<;>simp only [hl]
  unfold doCall
  simp only [cond_false]
  by_cases hp':hp f=true
  ·rw [if_pos hp'];exact hc
  ·rw [if_neg hp']
   rcases hf with hf | hf
   ·exact (hp' hf).elim
   ·rw [hf];exact hc
 cases e with
 | exit i=>exact hq.elim
 | normal=>obtain ⟨l,h1,h2⟩:=hq;exact ⟨n,_,_,key h1 (.inl rfl),h2⟩
 | ret=>obtain ⟨l,h1,h2⟩:=hq;exact ⟨n,_,_,key h1 (.inr rfl),h2⟩
structure EncOk {α:Type} (C:α→List AV) (sz:Nat):Prop where
 len:∀ x,(C x).length=sz
 one:∀ x,allOne (C x)=true
 bel:∀ x,AV.bels 0 (C x)=true
theorem belss_map {α:Type} {C:α→List AV} (h:∀ x,AV.bels 0 (C x)=true):∀ l:List α,AV.belss 0 (l.map C)=true
 | []=>rfl
 | x::l=>by simp [AV.belss,h x,belss_map h l]
theorem bels_append {xs ys:List AV} (h1:AV.bels 0 xs=true) (h2:AV.bels 0 ys=true):AV.bels 0 (xs++ys)=true:=by
 induction xs with
 | nil=>exact h2
 | cons x xs ih=>simp only [AV.bels,Bool.and_eq_true,List.cons_append] at h1 ⊢;exact ⟨h1.1,ih h1.2⟩
theorem pk_free {d:Nat} {H:List Obj} {v:AV} (h:v.bel 0=true):pk d H v=some v:=by
 cases d<;>(unfold pk;rw [if_pos (by exact h)])
theorem mapO_bels {d:Nat} {H:List Obj}:∀ {xs:List AV},AV.bels 0 xs=true→mapO (pk d H) xs=some xs
 | [],_=>rfl
 | x::xs,h=>by simp only [AV.bels,Bool.and_eq_true] at h;simp [mapO,pk_free h.1,mapO_bels h.2]
theorem mapOO_map {α:Type} {C:α→List AV} {d:Nat} {H:List Obj} (h:∀ x,AV.bels 0 (C x)=true):∀ l:List α,mapOO (pk d H) (l.map C)=some (l.map C)
 | []=>rfl
 | x::l=>by simp [mapOO,mapO_bels (h x),mapOO_map h l]
theorem eqCellsB:∀ (l m:List Bool),l.length=m.length→eqCells (List.replicate l.length .bool) (l.map AV.bool) (m.map AV.bool)=some (l==m)
 | [],[],_=>rfl
 | x::l,y::m,h=>by
  have:=eqCellsB l m (by simpa using h)
  simp only [List.length_cons,List.replicate_succ,List.map_cons,eqCells,eqCell,this]
  rfl
theorem eqCellsI (k:IntKind):∀ (l m:List Int),l.length=m.length→eqCells (List.replicate l.length (.int k)) (l.map (AV.int k)) (m.map (AV.int k))=some (l==m)
 | [],[],_=>rfl
 | x::l,y::m,h=>by
  have:=eqCellsI k l m (by simpa using h)
  simp only [List.length_cons,List.replicate_succ,List.map_cons,eqCells,eqCell,this,and_self,if_true]
  rfl
theorem slc_arr_pk {α:Type} {C:α→List AV} {c1:α→AV} (hC:∀ x,C x=[c1 x]):∀ (n:Nat) (l:List α),n≤l.length→chunks 1 n (l.map c1)=(l.take n).map C
 | 0,_,_=>by simp [chunks]
 | n+1,[],h=>by simp at h
 | n+1,x::l,h=>by
  have:=slc_arr_pk hC n l (by simpa using h)
  simp only [List.map_cons,chunks,List.take_succ_cons,hC,List.take_zero,List.drop_succ_cons,List.drop_zero,this]
theorem flat_at {α:Type} {C:α→List AV} {n:Nat} (hC:∀ a,(C a).length=n):∀ (l:List α) (k:Nat) (hk:k < l.length),k*n+n≤((l.map C).flatten).length∧(((l.map C).flatten.drop (k*n)).take n)=C l[k]
 | x::l,0,_=>by
  simp only [List.map_cons,List.flatten_cons,List.length_append,Nat.zero_mul,List.drop_zero,List.getElem_cons_zero,hC x]
  refine ⟨by omega,?_⟩
  rw [List.take_append_of_le_length (by rw [hC x];exact Nat.le_refl _),List.take_of_length_le (by rw [hC x];exact Nat.le_refl _)]
 | x::l,k+1,hk=>by
  obtain ⟨h1,h2⟩:=flat_at hC l k (by simpa using hk)
  have e:(k+1)*n=n+k*n:=by rw [Nat.succ_mul,Nat.add_comm]
  simp only [List.map_cons,List.flatten_cons,List.length_append,List.getElem_cons_succ,hC x,e]
  refine ⟨by omega,?_⟩
  have d1:(C x++(List.map C l).flatten).drop n=(List.map C l).flatten:=List.drop_left' (hC x)
  rw [←List.drop_drop,d1]
  exact h2
def WD (E:Env) (hp:Nat→Bool) (b0:Nat) (os:List (Nat×ROp)) (t:T) (H:List Obj) (K:T→List Obj→List FP→Prop):Prop:=
 ∃ n t' H' fs,runDT E.glob (cIT E.fns (execT E hp n)) b0 os t H=some (t',H',fs)∧K t' H' fs
theorem WD_nil {b0:Nat} {K:T→List Obj→List FP→Prop} (h:K t H []):WD E hp b0 [] t H K:=⟨0,t,H,[],rfl,h⟩
theorem lents_free {H:List Obj}:∀ {xs:List AV},AV.bels 0 xs=true→lents H xs=some xs
 | [],_=>rfl
 | x::xs,h=>by
  simp only [AV.bels,Bool.and_eq_true] at h
  simp only [lents,lent1,h.1,if_true,lents_free h.2]
theorem refs_free:∀ {x:AV},x.bel 0=true→refs x=[]:=by
 intro x h
 cases x<;>first | rfl | simp [AV.bel] at h
theorem refss_free:∀ {xs:List AV},AV.bels 0 xs=true→xs.flatMap refs=[]
 | [],_=>rfl
 | x::xs,h=>by
  simp only [AV.bels,Bool.and_eq_true] at h
  simp only [List.flatMap_cons,refs_free h.1,refss_free h.2,List.append_nil]
theorem fp_call {pl f:Nat} {args:List RX} {ys:List AV} (h:args.map (evT E.glob t)=ys) (hb:AV.bels 0 ys=true):fpOfe (evT E.glob t) pl (.call f args)={ all:=false }:=by
 subst h
 simp only [fpOfe,refss_free hb]
def encO {α:Type} (C:α→List AV):Option (List α)→AV
 | none=> .nils
 | some l=> .ro (l.map C)
end
def Fin (rs:List (Sum Nat (Nat×Nat×Bool))) (r:AV) (s:ST):Prop:=∃ l,resultsT rs s=some l∧pack s.H (oneOf l)=some r
section
variable {E:Env} {hp:Nat→Bool}
theorem allOne_app {xs ys:List AV} (h1:allOne xs=true) (h2:allOne ys=true):allOne (xs++ys)=true:=by
 induction xs with
 | nil=>exact h2
 | cons x xs ih=>simp only [allOne,Bool.and_eq_true,List.cons_append] at h1 ⊢;exact ⟨h1.1,ih h1.2⟩
end
end Go.Am.As
end
