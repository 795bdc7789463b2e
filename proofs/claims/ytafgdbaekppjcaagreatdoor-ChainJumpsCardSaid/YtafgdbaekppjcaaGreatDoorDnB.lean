/- Typed states: operations that compute and operations that read. No condition. -/
import Derived.Test.YtafgdbaekppjcaaGreatDoorAmP0
set_option linter.unusedSectionVars false
set_option linter.unusedVariables false
set_option linter.unusedSimpArgs false
namespace oe
open Go hiding Obj mark
open Go.Pl Go.Am Go.Am.As
section
variable {G:Nat->Type} {R:Type}
theorem Ke {α:Type} {x:α} {P:Prop} (h:(none:Option α)=some x):P:=nomatch h
def ny (n:Nat) (ag:Bool) (cs:List (TV G)) (o:Nat):Option (TV G):=
 if ag then (if o+n<=cs.length then some (.agg ((cs.drop o).take n)) else none) else cs[o]?
theorem fK {g:Ge G} {ln:Nat->Nat} {n:Nat} {ag:Bool} {cs:List (TV G)} {o:Nat} {v:TV G} (h:ny n ag cs o=some v):part n ag (TV.aP g ln cs) o=some (v.av g ln):=by
 unfold ny at h;unfold Am.part
 cases ag with
 | true=>
  simp only [if_true] at h ⊢;rw [dy];split at h
  case isFalse=>cases h
  rename_i hc;rw [if_pos hc];injection h with h;subst h
  rw [TV.av,bV,bV,zbH,zc]
 | false=>
  simp only [za9,if_false] at h ⊢;rw [bV,zav,h];rfl
def Li:TV G->Bool
 | .agg _ | .aY _ | .arr ..=>false
 | .raw v=>v.one
 | _=>true
theorem SC (g:Ge G) (ln:Nat->Nat) {v:TV G} (h:Li v=true):(v.av g ln).one=true:=by
 cases v with
 | agg l=>cases h
 | aY l=>cases h
 | arr n t a=>cases h
 | raw v=>exact h
 | gr t o=>cases o<;>rfl
 | dO t o=>cases o<;>rfl
 | sa id lo len=>show AV.one (if len=0 then .ro [] else .arr id 1 0 lo 1 len)=true;split<;>rfl
 | _=>rfl
def iE:List (TV G)->Bool
 | []=>true
 | x::xs=>Li x&&iE xs
theorem fS (g:Ge G) (ln:Nat->Nat):∀ {l:List (TV G)},iE l=true->aW (TV.aP g ln l)=true
 | [],_=>rfl
 | x::l,h=>by
  simp only [iE,za0] at h;simp only [TV.aP,aW,SC g ln h.1,fS g ln h.2,zbM]
def mA:List (TV G)->Nat->List (TV G)->List (TV G)
 | cs,_,[]=>cs
 | cs,o,x::xs=>mA (cs.set o x) (o+1) xs
theorem oL (g:Ge G) (ln:Nat->Nat):∀ (xs cs:List (TV G)) (o:Nat),TV.aP g ln (mA cs o xs)=putAt (TV.aP g ln cs) o (TV.aP g ln xs)
 | [],_,_=>rfl
 | x::xs,cs,o=>by
  rw [mA,oL g ln xs,TV.aP,putAt];congr 1;rw [bV,bV,zbS]
theorem yl:∀ (xs cs:List (TV G)) (o:Nat),(mA cs o xs).length=cs.length
 | [],_,_=>rfl
 | x::xs,cs,o=>by rw [mA,yl xs];simp
def HT (g:Ge G):List (TV G)->List (Nat×Nat×TV G)->Option (List (TV G))
 | cs,[]=>some cs
 | cs,(o,n,v)::r=>if Nat.beq (v.cells g).length n&&(Nat.ble (o+n) cs.length&&iE (v.cells g)) then HT g (mA cs o (v.cells g)) r else none
theorem D5 {g:Ge G} {ln:Nat->Nat}:∀ {r:List (Nat×Nat×TV G)} {cs l:List (TV G)},HT g cs r=some l->nx (TV.aP g ln cs) (r.map fun p=>(p.1,p.2.1,p.2.2.av g ln))=some (TV.aP g ln l)
 | [],cs,l,h=>by injection h with h;subst h;rfl
 | (o,n,v)::r,cs,l,h=>by
  rw [HT] at h;split at h
  case isFalse=>cases h
  rename_i hc;simp only [za0] at hc;have h1:=za3 hc.1;have h2:=zaB hc.2.1;rw [za5,nx,dn,if_pos ⟨by rw [dy];exact h1,by rw [dy];exact h2,fS g ln hc.2.2⟩,<-oL];exact D5 h
def Md (p:Bool) (u v:TV G) (k:TV G->Option R):Option R:=match u,v with
 | .int k1 x,.int k2 y=>if k1=k2 then k (.int k1 (cond p x y)) else none
 | .bool x,.bool y=>k (.bool (cond p x y))
 | .str x,.str y=>k (.str (cond p x y))
 | u,v=>cond p (k u) (k v)
theorem Ph {g:Ge G} {ln:Nat->Nat} {p:Bool} {u v:TV G} {k:TV G->Option R} {r:R} (h:Md p u v k=some r):∃ w:TV G,w.av g ln=cond p (u.av g ln) (v.av g ln)/\k w=some r:=by
 unfold Md at h;split at h
 ·rename_i k1 x k2 y;split at h
  case isFalse=>cases h
  rename_i e;subst e;exact ⟨_,by cases p<;>rfl,h⟩
 ·exact ⟨_,by cases p<;>rfl,h⟩
 ·exact ⟨_,by cases p<;>rfl,h⟩
 ·cases p with
  | true=>exact ⟨u,rfl,h⟩
  | false=>exact ⟨v,rfl,h⟩
def T6 (op:BinOp) (k:IntKind) (a b:Int) (c:TV G->Option R):Option R:=match op with
 | .add=>c (.int k (aE k a b))
 | .sub=>c (.int k (ct k a b))
 | .mul=>c (.int k (dF k a b))
 | .quo=>(JE k a b).bind fun v=>c (.int k v)
 | .rem=>(pI a b).bind fun v=>c (.int k v)
 | .and=>c (.int k (fE k a b))
 | .or=>c (.int k (orI k a b))
 | .eql=>c (.bool (a==b))
 | .neq=>c (.bool (a !=b))
 | .lss=>c (.bool (decide (a < b)))
 | .leq=>c (.bool (decide (a<=b)))
 | .gtr=>c (.bool (decide (a > b)))
 | .geq=>c (.bool (decide (a≥b)))
 | _=>none
def T7 (op:BinOp) (a b:List UInt8) (c:TV G->Option R):Option R:=match op with
 | .add=>(oT a b).bind fun v=>c (.str v)
 | .eql=>c (.bool (a==b))
 | .neq=>c (.bool (!(a==b)))
 | .lss=>c (.bool (Op.bytesLess a b))
 | .leq=>c (.bool (Op.bytesLess a b||a==b))
 | .gtr=>c (.bool (!(Op.bytesLess a b||a==b)))
 | .geq=>c (.bool (!(Op.bytesLess a b)))
 | _=>none
def Ln (op:BinOp) (x y:TV G) (c:TV G->Option R):Option R:=match x,y with
 | .int k a,.int k' b=>(match op with
  | .shl=>(Zg k a b).bind fun v=>c (.int k v)
  | .shr=>(Zh k a b).bind fun v=>c (.int k v)
  | op=>if k=k' then T6 op k a b c else none)
 | .str a,.str b=>T7 op a b c
 | _,_=>none
theorem Pj {g:Ge G} {ln:Nat->Nat} {op:BinOp} {k:IntKind} {a b:Int} {c:TV G->Option R} {r:R} (h:T6 op k a b c=some r):∃ w:TV G,Bc op k a b=some (w.av g ln)/\c w=some r:=by
 cases op<;>first
  | exact ⟨_,rfl,h⟩
  | (obtain ⟨v,h1,h2⟩:=bind_some h
     refine ⟨_,?_,h2⟩;first
     | (unfold JE at h1;split at h1;· cases h1
        rename_i h0;injection h1 with h1;subst h1
        simp only [Bc,if_neg h0,TV.av])
     | (unfold pI at h1;split at h1;· cases h1
        rename_i h0;injection h1 with h1;subst h1
        simp only [Bc,if_neg h0,TV.av]))
  | cases h
theorem Pk {g:Ge G} {ln:Nat->Nat} {op:BinOp} {a b:List UInt8} {c:TV G->Option R} {r:R} (h:T7 op a b c=some r):∃ w:TV G,JM op a b=some (w.av g ln)/\c w=some r:=by
 cases op<;>first
  | exact ⟨_,rfl,h⟩
  | (obtain ⟨v,h1,h2⟩:=bind_some h
     refine ⟨_,?_,h2⟩;unfold oT at h1;split at h1
     ·rename_i h0;injection h1 with h1;subst h1
      simp only [JM,if_pos h0,TV.av]
     ·cases h1)
  | cases h
theorem SD {g:Ge G} {ln:Nat->Nat} {op:BinOp} {x y:TV G} {c:TV G->Option R} {r:R} (h:Ln op x y c=some r):∃ w:TV G,Am.bin op (x.av g ln) (y.av g ln)=some (w.av g ln)/\c w=some r:=by
 unfold Ln at h;split at h
 ·rename_i k a k' b
  cases op
  case shl=>
   obtain ⟨v,h1,h2⟩:=bind_some h;refine ⟨_,?_,h2⟩;unfold Zg at h1;split at h1
   ·cases h1
   rename_i h0;injection h1 with h1;subst h1
   simp only [TV.av,Am.bin,if_neg h0]
  case shr=>
   obtain ⟨v,h1,h2⟩:=bind_some h;refine ⟨_,?_,h2⟩;unfold Zh at h1;split at h1
   ·cases h1
   rename_i h0;injection h1 with h1;subst h1
   simp only [TV.av,Am.bin,if_neg h0]
  all_goals
   (dsimp only at h
    split at h
    case isFalse=>cases h
    rename_i e;subst e;obtain ⟨w,h1,h2⟩:=Pj (g:=g) (ln:=ln) h;exact ⟨w,by simp only [TV.av,Am.bin,if_true];exact h1,h2⟩)
 ·obtain ⟨w,h1,h2⟩:=Pk (g:=g) (ln:=ln) h;exact ⟨w,h1,h2⟩
 ·cases h
def unV (op:UnOp) (x:TV G) (c:TV G->Option R):Option R:=match op,x with
 | .neg,.int k n=>c (.int k (ct k 0 n))
 | .not,.bool b=>c (.bool (!b))
 | _,_=>none
theorem Xj {g:Ge G} {ln:Nat->Nat} {op:UnOp} {x:TV G} {c:TV G->Option R} {r:R} (h:unV op x c=some r):∃ w:TV G,Am.un op (x.av g ln)=some (w.av g ln)/\c w=some r:=by
 unfold unV at h;split at h
 ·exact ⟨_,rfl,h⟩
 ·exact ⟨_,rfl,h⟩
 ·cases h
def VB:CK->TV G->TV G->Option Bool
 | .bool,.bool a,.bool b=>some (a==b)
 | .int k,.int k1 a,.int k2 b=>if k1=k/\k2=k then some (a==b) else none
 | .str,.str a,.str b=>some (a==b)
 | _,_,_=>none
theorem SE {g:Ge G} {ln:Nat->Nat} {k:CK} {x y:TV G} {b:Bool} (h:VB k x y=some b):dj k (x.av g ln) (y.av g ln)=some b:=by
 unfold VB at h;split at h
 ·exact h
 ·exact h
 ·exact h
 ·cases h
def HU:List CK->List (TV G)->List (TV G)->Option Bool
 | [],[],[]=>some true
 | k::ks,x::xs,y::ys=>(match VB k x y with
  | some a=>(match HU ks xs ys with | some b=>some (a&&b) | none=>none)
  | none=>none)
 | _,_,_=>none
theorem D6 {g:Ge G} {ln:Nat->Nat}:∀ {ks:List CK} {xs ys:List (TV G)} {b:Bool},HU ks xs ys=some b->bI ks (TV.aP g ln xs) (TV.aP g ln ys)=some b
 | [],[],[],b,h=>h
 | k::ks,x::xs,y::ys,b,h=>by
  rw [HU] at h;split at h
  case h_2=>cases h
  rename_i a ha;split at h
  case h_2=>cases h
  rename_i b' hb;injection h with h;subst h
  simp only [TV.aP,bI,SE ha,D6 hb]
 | [],[],_::_,_,h=>by cases h
 | [],_::_,_,_,h=>by cases h
 | _::_,[],_,_,h=>by cases h
 | _::_,_::_,[],_,h=>by cases h
def Lu (k:CK):Nat->List CK->Bool
 | 0,[]=>true
 | n+1,k'::ks=>decide (k'=k)&&Lu k n ks
 | _,_=>false
theorem B4 {k:CK}:∀ {n:Nat} {ks:List CK},Lu k n ks=true->ks=List.replicate n k
 | 0,[],_=>rfl
 | n+1,k'::ks,h=>by
  simp only [Lu,za0,decide_eq_true_eq] at h;rw [h.1,B4 h.2];rfl
 | 0,_::_,h=>by cases h
 | _+1,[],h=>by cases h
def Q8 (ks:List CK) (n:Nat):(t:Ty)->eB n (t.D G)->eB n (t.D G)->Option Bool
 | .bool,a,b=>if Lu .bool n ks then some ((show List Bool from a.1)==(show List Bool from b.1)) else none
 | .int k,a,b=>if Lu (.int k) n ks then some ((show List Int from a.1)==(show List Int from b.1)) else none
 | _,_,_=>none
def VC (g:Ge G) (neg:Bool) (ks:List CK) (x y:TV G) (c:TV G->Option R):Option R:=match x,y with
 | .agg xs,.agg ys=>(match HU ks xs ys with | some b=>c (.bool (b !=neg)) | none=>none)
 | .arr n t a,y=>(match yK g (.arr n t) y with
  | some b=>(match Q8 ks n t a b with | some b=>c (.bool (b !=neg)) | none=>none)
  | none=>none)
 | _,_=>none
theorem vW {α:Type} {f:α->AV}:∀ l:List α,(l.map fun x=>[f x]).flatten=l.map f
 | []=>rfl
 | x::l=>by rw [za5,zb,vW l];rfl
theorem Xk {n:Nat} (a b:eB n Bool):bI (List.replicate n .bool) (a.1.map fun x=>[AV.bool x]).flatten (b.1.map fun x=>[AV.bool x]).flatten=some (a.1==b.1):=by
 rw [vW (f:=AV.bool),vW (f:=AV.bool)];have:=D7 a.1 b.1 (by rw [a.2,b.2]);rw [a.2] at this;exact this
theorem Xl {n:Nat} {k:IntKind} (a b:eB n Int):bI (List.replicate n (.int k)) (a.1.map fun x=>[AV.int k x]).flatten (b.1.map fun x=>[AV.int k x]).flatten=some (a.1==b.1):=by
 rw [vW (f:=AV.int k),vW (f:=AV.int k)];have:=D8 k a.1 b.1 (by rw [a.2,b.2]);rw [a.2] at this;exact this
theorem SF {g:Ge G} {ks:List CK} {n:Nat}:∀ {t:Ty} {a b:eB n (t.D G)} {r:Bool},Q8 ks n t a b=some r->bI ks (List.map (enc g t) a.1).flatten (List.map (enc g t) b.1).flatten=some r
 | .bool,a,b,r,h=>by
  unfold Q8 at h;dsimp only at h;split at h
  case isFalse=>cases h
  rename_i hk;injection h with h;subst h
  rw [B4 hk];exact Xk (show eB n Bool from a) b
 | .int k,a,b,r,h=>by
  unfold Q8 at h;dsimp only at h;split at h
  case isFalse=>cases h
  rename_i hk;injection h with h;subst h
  rw [B4 hk];exact Xl (show eB n Int from a) b
 | .str,_,_,_,h | .list _,_,_,_,h | .kA _,_,_,_,h | .st _,_,_,_,h | .arr _ _,_,_,_,h | .ptr _,_,_,_,h | .dO _,_,_,_,h=>by cases h
theorem SG {g:Ge G} (hg:g.Ok) {ln:Nat->Nat} {neg:Bool} {ks:List CK} {x y:TV G} {c:TV G->Option R} {r:R} (h:VC g neg ks x y c=some r):∃ w:TV G,Am.Cz neg ks (x.av g ln) (y.av g ln)=some (w.av g ln)/\c w=some r:=by
 unfold VC at h;split at h
 ·split at h
  case h_2=>cases h
  rename_i b hb;refine ⟨_,?_,h⟩;simp only [TV.av,Am.Cz,D6 hb]
 ·rename_i n t a y;split at h
  case h_2=>cases h
  rename_i b hb;split at h
  case h_2=>cases h
  rename_i e he;refine ⟨_,?_,h⟩;rw [mB hg ln _ _ _ hb];simp only [TV.av,va,Am.Cz,SF he]
 ·cases h
def ZT (neg:Bool) (x y:TV G) (c:TV G->Option R):Option R:=match x,y with
 | .bool a,.bool b=>c (.bool ((a==b) !=neg))
 | _,_=>none
def Me:TV G->Option Bool
 | .raw .gZ=>some true
 | .bR _=>some false
 | .po ..=>some false
 | .pe ..=>some false
 | .pa ..=>some false
 | _=>none
theorem Pm {g:Ge G} {ln:Nat->Nat} {x:TV G} {b:Bool} (h:Me x=some b):p6 (x.av g ln)=some b:=by
 unfold Me at h;split at h<;>first | exact h | cases h
def ZU (neg:Bool) (x y:TV G) (c:TV G->Option R):Option R:=match y with
 | .raw .gZ=>(match Me x with | some b=>c (.bool (b !=neg)) | none=>none)
 | _=>none
def T8:TV G->Option (TV G)
 | .bR cs=>some (.bR cs)
 | .po id o=>some (.po id o)
 | .pe id i o=>some (.pe id i o)
 | .fn f cap=>some (.fn f cap)
 | _=>none
def FT (off:Nat):TV G->Option (TV G)
 | .bR cs=>if off<=cs.length then some (.bR (cs.drop off)) else none
 | .po id o=>some (.po id (o+off))
 | .pe id i o=>some (.pe id i (o+off))
 | .pa id sz i o=>some (.pa id sz i (o+off))
 | _=>none
theorem IZ {g:Ge G} {ln:Nat->Nat} {off:Nat} {x v:TV G} (h:FT off x=some v):Am.uZ off (x.av g ln)=some (v.av g ln):=by
 unfold FT at h;split at h
 ·split at h
  case isFalse=>cases h
  rename_i hc;injection h with h;subst h
  show (if off<=(TV.aP g ln _).length then _ else _)=_;rw [dy,if_pos hc,TV.av,bV,bV,zc]
 ·injection h with h;subst h;rfl
 ·injection h with h;subst h;rfl
 ·injection h with h;subst h;show some (AV.aJ _ _ _ _)=some (AV.aJ _ _ _ _);rw [Nat.add_assoc]
 ·cases h
def Q9:TV G->Option (IntKind×Int)
 | .int k n=>some (k,n)
 | .raw v=>(match v with | .int k n=>some (k,n) | _=>none)
 | _=>none
theorem SH {g:Ge G} {ln:Nat->Nat} {v:TV G} {p:IntKind×Int} (h:Q9 v=some p):v.av g ln= .int p.1 p.2:=by
 unfold Q9 at h;split at h
 ·injection h with h;subst h;rfl
 ·split at h
  ·injection h with h;subst h;rfl
  ·cases h
 ·cases h
def HV (k:IntKind):List (TV G)->Option (List Int)
 | []=>some []
 | x::r=>(match Q9 x with
  | some p=>if p.1=k then (match HV k r with | some l=>some (p.2::l) | none=>none) else none
  | none=>none)
theorem D9 {g:Ge G} {ln:Nat->Nat} {k:IntKind}:∀ {l:List (TV G)} {q:List Int},HV k l=some q->TV.aP g ln l=q.map fun n=>AV.int k n
 | [],q,h=>by cases h;rfl
 | x::r,q,h=>by
  unfold HV at h;split at h
  case h_2=>cases h
  rename_i p hp;split at h
  case isFalse=>cases h
  rename_i hk;split at h
  case h_2=>cases h
  rename_i m hm;injection h with h;subst h
  rw [TV.aP,SH hp,D9 hm,hk];rfl
theorem Ea (g:Ge G) (ln:Nat->Nat) (k:IntKind):∀ l:List Int,TV.aP g ln (l.map (TV.int k))=l.map fun n=>AV.int k n
 | []=>rfl
 | x::l=>by rw [za5,TV.aP,Ea g ln k l];rfl
def VD (len sz:Nat) (cs:List (TV G)):Option (IntKind×List Int):=match cs with
 | []=>none
 | x::_=>(match Q9 x with
  | some p=>(match HV p.1 cs with | some l=>if Nat.beq sz 1&&Nat.beq l.length len then some (p.1,l) else none | none=>none)
  | none=>none)
theorem SI {g:Ge G} {ln:Nat->Nat} {len sz:Nat} {cs:List (TV G)} {p:IntKind×List Int} (h:VD len sz cs=some p):TV.aP g ln cs=p.2.map (fun n=>AV.int p.1 n)/\sz=1/\p.2.length=len:=by
 unfold VD at h;split at h
 ·cases h
 ·split at h
  case h_2=>cases h
  split at h
  case h_2=>cases h
  rename_i l hl;split at h
  case isFalse=>cases h
  rename_i hc;rw [za0] at hc;injection h with h;subst h
  exact ⟨D9 hl,za3 hc.1,za3 hc.2⟩
def A2 (n:Int) (f:Nat->Option R):Nat->Nat->Option R
 | 0,_=>none
 | m+1,i=>if n=(i:Int) then f i else A2 n f m (i+1)
theorem vb {n:Int} {f:Nat->Option R} {r:R}:∀ {m i:Nat},A2 n f m i=some r->∃ j,j < i+m/\n=(j:Int)/\f j=some r
 | 0,i,h=>by cases h
 | m+1,i,h=>by
  rw [A2] at h;split at h
  ·rename_i e;exact ⟨i,by omega,e,h⟩
  ·obtain ⟨j,h1,h2⟩:=vb h;exact ⟨j,by omega,h2⟩
def Mf (g:Ge G) (H:List (TO G)) (len sz:Nat) (x i:TV G) (c:TV G->Option R):Option R:=match i with
 | .int k n=>(match x with
  | .po id o=>(match H[id]? with
   | some (.arr m t a)=>if Nat.beq o 0&&(Nat.beq m len&&Nat.beq (t.n g) sz) then (oU a n).bind fun _=>c (.pa id sz n 0) else none
   | _=>A2 n (fun j=>match FT (j*sz) x with | some v=>c v | none=>none) len 0)
  | .bR cs=>(match VD len sz cs with
   | some p=>(idx p.2 n).bind fun v=>c (.bR (.int p.1 v::(p.2.drop (n.toNat+1)).map (TV.int p.1)))
   | none=>A2 n (fun j=>match FT (j*sz) x with | some v=>c v | none=>none) len 0)
  | x=>A2 n (fun j=>match FT (j*sz) x with | some v=>c v | none=>none) len 0)
 | _=>none
theorem oj {n:Nat} {α:Type} {a:eB n α} {i:Int} {v:α} (h:oU a i=some v):0<=i/\i < (n:Int)/\a.1[i.toNat]?=some v:=by
 unfold oU idx at h;split at h
 case isFalse=>cases h
 obtain ⟨h1,_⟩:=zab.1 h;rw [a.2] at h1;exact ⟨by assumption,by omega,h⟩
theorem Pn {g:Ge G} {ln:Nat->Nat} {H:List (TO G)} {len sz:Nat} {x i:TV G} {c:TV G->Option R} {r:R} (h:Mf g H len sz x i c=some r):∃ w:TV G,Am.mm len sz (x.av g ln) (i.av g ln)=some (w.av g ln)/\c w=some r:=by
 have lit:∀ {k:IntKind} {n:Int} {x:TV G},A2 n (fun j=>match FT (j*sz) x with | some v=>c v | none=>none) len 0=some r->∃ w:TV G,Am.mm len sz (x.av g ln) (.int k n)=some (w.av g ln)/\c w=some r:=by
  intro k n x h;obtain ⟨j,h1,rfl,h2⟩:=vb h;split at h2
  case h_2=>cases h2
  rename_i v hv;refine ⟨v,?_,h2⟩;simp only [Am.mm];rw [if_pos ⟨by omega,by omega⟩,zaw,IZ hv]
 unfold Mf at h;split at h
 case h_2=>cases h
 rename_i k n;split at h
 ·rename_i id o;split at h
  ·rename_i m t a hid;split at h
   case isFalse=>cases h
   rename_i hc;simp only [za0] at hc;have e1:=za3 hc.1;have e2:=za3 hc.2.1;have e3:=za3 hc.2.2;subst e1;subst e2;subst e3;obtain ⟨v,h1,h2⟩:=bind_some h;obtain ⟨h3,h4,_⟩:=oj h1;refine ⟨_,?_,h2⟩;simp only [TV.av,Am.mm,if_pos (And.intro h3 h4),Am.uZ,zaD,zb7]
  ·exact lit h
 ·rename_i cs;split at h
  ·rename_i p hp;obtain ⟨e1,e2,e3⟩:=SI (g:=g) (ln:=ln) hp;obtain ⟨v,h1,h2⟩:=bind_some h;unfold idx at h1;split at h1
   case isFalse=>cases h1
   rename_i h0;obtain ⟨h3,h4⟩:=zab.1 h1;subst e2;refine ⟨_,?_,h2⟩;simp only [TV.av,Am.mm];rw [if_pos ⟨h0,by omega⟩,e1,zbv];show Am.uZ n.toNat (.bR _)=some (AV.bR (TV.aP g ln (_::_)));rw [TV.aP,Ea];simp only [Am.uZ,zaa];rw [if_pos (by omega),<-zc,List.drop_eq_getElem_cons h3,h4];rfl
  ·exact lit h
 ·exact lit h
def Mg (g:Ge G) (len n:Nat) (ag:Bool) (x i:TV G) (c:TV G->Option R):Option R:=match i with
 | .int k j=>(match x with
  | .agg cs=>A2 j (fun j=>match ny n ag cs (j*n) with | some v=>c v | none=>none) len 0
  | .arr m t a=>if Nat.beq m len&&(Nat.beq (t.n g) n&&Nat.beq n 1) then (oU a j).bind fun v=>(match ny n ag ((view g t v).cells g) 0 with | some v=>c v | none=>none) else none
  | _=>none)
 | _=>none
theorem BF {α:Type} {C:α->List AV} {n:Nat} (hC:∀ a,(C a).length=n) {l:List α} {k:Nat} {x:α} (h:l[k]?=some x) {ag:Bool} {w:AV} {o m:Nat} (ho:o+m<=n) (hm:ag=false->m=1) (hw:Am.part m ag (C x) o=some w):Am.part m ag (l.map C).flatten (k*n+o)=some w:=by
 obtain ⟨hk,hx⟩:=zab.1 h;obtain ⟨h1,h2⟩:=I0 hC l k hk;rw [hx] at h2;unfold Am.part at hw ⊢
 cases ag with
 | true=>
  simp only [if_true] at hw ⊢;rw [if_pos (by omega)];split at hw
  case isFalse=>cases hw
  rw [<-hw,<-h2];congr 2;rw [List.drop_take,List.take_take,zbP];congr 1;omega
 | false=>
  simp only [za9,if_false] at hw ⊢;have:=hm rfl;rw [<-hw,<-h2,zbn,if_pos (by omega),List.getElem?_drop]
theorem Po {g:Ge G} (hg:g.Ok) {ln:Nat->Nat} {len n:Nat} {ag:Bool} {x i:TV G} {c:TV G->Option R} {r:R} (h:Mg g len n ag x i c=some r):∃ w:TV G,Am.nk len n ag (x.av g ln) (i.av g ln)=some (w.av g ln)/\c w=some r:=by
 unfold Mg at h;split at h
 case h_2=>cases h
 rename_i k j;split at h
 ·rename_i cs;obtain ⟨q,h1,rfl,h2⟩:=vb h;split at h2
  case h_2=>cases h2
  rename_i v hv;refine ⟨v,?_,h2⟩;simp only [TV.av,Am.nk];rw [if_pos ⟨by omega,by omega⟩,zaw,fK hv]
 ·rename_i m t a;split at h
  case isFalse=>cases h
  rename_i hc;simp only [za0] at hc;have e1:=za3 hc.1;have e2:=za3 hc.2.1;have e3:=za3 hc.2.2;subst e1;subst e3;obtain ⟨v,h1,h2⟩:=bind_some h;obtain ⟨h3,h4,h5⟩:=oj h1;split at h2
  case h_2=>cases h2
  rename_i w hw;refine ⟨w,?_,h2⟩;simp only [TV.av,Am.nk,if_pos (And.intro h3 h4)];have h6:=fK (g:=g) (ln:=ln) hw;rw [gJ hg] at h6;have h7:=BF (o:=0) (cT hg t).len h5 (by rw [e2];exact za7 _) (fun _=>rfl) h6;rw [e2] at h7;exact h7
 ·cases h
def Mh (x i:TV G) (c:TV G->Option R):Option R:=match x,i with
 | .str l,.int _ n=>(idx l n).bind fun v=>c (.int .u8 (v.toNat:Int))
 | _,_=>none
theorem Pp {g:Ge G} {ln:Nat->Nat} {x i:TV G} {c:TV G->Option R} {r:R} (h:Mh x i c=some r):∃ w:TV G,Am.oV (x.av g ln) (i.av g ln)=some (w.av g ln)/\c w=some r:=by
 unfold Mh at h;split at h
 case h_2=>cases h
 obtain ⟨v,h1,h2⟩:=bind_some h;refine ⟨_,?_,h2⟩;unfold idx at h1;split at h1
 case isFalse=>cases h1
 rename_i h0;simp only [TV.av,Am.oV,if_pos h0,h1]
def A3:Option (TV G)->Option (Option Int)
 | none=>some none
 | some (.int _ n)=>some (some n)
 | _=>none
theorem SJ {g:Ge G} {ln:Nat->Nat} {o:Option (TV G)} {b:Option Int} (h:A3 o=some b):(o=none/\b=none)\/∃ k n,o=some (.int k n)/\b=some n:=by
 unfold A3 at h;split at h
 ·injection h with h;exact .inl ⟨rfl,h.symm⟩
 ·injection h with h;exact .inr ⟨_,_,rfl,h.symm⟩
 ·cases h
theorem BG {α:Type} {l v:List α} {lo hi:Option Int} (h:mj l lo hi=some v) {lo' hi':Option AV} (el:(lo'=none/\lo=none)\/∃ k n,lo'=some (.int k n)/\lo=some n) (eh:(hi'=none/\hi=none)\/∃ k n,hi'=some (.int k n)/\hi=some n):
 ∃ a b:Nat,eD l.length l.length hi'=some b/\eD 0 b lo'=some a/\a<=b/\b<=l.length/\v=(l.drop a).take (b - a)/\(lo.getD 0).toNat=a/\(hi.getD l.length).toNat=b:=by
 unfold mj at h;split at h
 case isFalse=>cases h
 rename_i hc;injection h with h
 obtain ⟨h1,h2,h3⟩:=hc;have hb:∃ b:Nat,eD l.length l.length hi'=some b/\hi.getD l.length=(b:Int)/\b<=l.length:=by
  rcases eh with ⟨rfl,rfl⟩ | ⟨k,n,rfl,rfl⟩
  ·exact ⟨l.length,rfl,rfl,za7 _⟩
  ·simp only [zaz] at h2 h3 ⊢;exact ⟨n.toNat,by show (if 0<=n/\n<=(l.length:Int) then some n.toNat else none)=_;rw [if_pos ⟨by omega,h3⟩],by omega,by omega⟩
 obtain ⟨b,CJ,Fz,hb3⟩:=hb;have ha:∃ a:Nat,eD 0 b lo'=some a/\lo.getD 0=(a:Int)/\a<=b:=by
  rcases el with ⟨rfl,rfl⟩ | ⟨k,n,rfl,rfl⟩
  ·exact ⟨0,rfl,rfl,zaO _⟩
  ·simp only [zaz] at h1 h2 ⊢;exact ⟨n.toNat,by show (if 0<=n/\n<=(b:Int) then some n.toNat else none)=_;rw [if_pos ⟨h1,by omega⟩],by omega,by omega⟩
 obtain ⟨a,Ql,ha2,ha3⟩:=ha;refine ⟨a,b,CJ,Ql,ha3,hb3,?_,by omega,by omega⟩;rw [<-h,ha2,Fz];rfl
def Mi (x:TV G) (lo hi:Option (TV G)) (c:TV G->Option R):Option R:=match x,A3 lo,A3 hi with
 | .str l,some a,some b=>(mj l a b).bind fun v=>c (.str v)
 | _,_,_=>none
theorem om {g:Ge G} {ln:Nat->Nat} {o:Option (TV G)} {b:Option Int} (h:A3 o=some b):(o.map (TV.av g ln)=none/\b=none)\/∃ k n,o.map (TV.av g ln)=some (.int k n)/\b=some n:=by
 rcases SJ (g:=g) (ln:=ln) h with ⟨rfl,rfl⟩ | ⟨k,n,rfl,rfl⟩
 ·exact .inl ⟨rfl,rfl⟩
 ·exact .inr ⟨k,n,rfl,rfl⟩
theorem Pq {g:Ge G} {ln:Nat->Nat} {x:TV G} {lo hi:Option (TV G)} {c:TV G->Option R} {r:R} (h:Mi x lo hi c=some r):∃ w:TV G,Am.oW (x.av g ln) (lo.map (TV.av g ln)) (hi.map (TV.av g ln))=some (w.av g ln)/\c w=some r:=by
 unfold Mi at h;split at h
 case h_2=>cases h
 rename_i l a b ha hb;obtain ⟨v,h1,h2⟩:=bind_some h;refine ⟨_,?_,h2⟩;obtain ⟨p,q,e1,e2,_,_,e5,_,_⟩:=BG h1 (om (g:=g) (ln:=ln) ha) (om (g:=g) (ln:=ln) hb);show (match eD l.length l.length _ with | some h=>_ | none=>none)=_;rw [e1];dsimp only;rw [e2,e5];rfl
def VE (H:List (TO G)) (st:Bool) (x:TV G) (c:TV G->Option R):Option R:=match st,x with
 | true,.str l=>c (.int .i64 (l.length:Int))
 | false,.aQ t l=>c (.int .i64 (l.length:Int))
 | false,.gr t l=>c (.int .i64 ((l.getD []).length:Int))
 | false,.o4 es=>c (.int .i64 (es.length:Int))
 | false,.own id=>c (.int .i64 (ju H id:Int))
 | false,.raw .bF=>c (.int .i64 0)
 | _,_=>none
theorem SK {g:Ge G} {s:DS G} {st:Bool} {x:TV G} {c:TV G->Option R} {r:R} (h:VE s.H st x c=some r):∃ w:TV G,(match qP st (x.av g s.ln) with | some n=>some (AV.int .i64 n) | none=>none)=some (w.av g s.ln)/\c w=some r:=by
 unfold VE at h;split at h
 ·exact ⟨_,rfl,h⟩
 ·rename_i t l;exact ⟨_,by simp [TV.av,qP,lenOf],h⟩
 ·rename_i t l;refine ⟨_,?_,h⟩
  cases l with
  | none=>rfl
  | some l=>simp [TV.av,qP,lenOf,CU]
 ·rename_i es;exact ⟨_,by simp [TV.av,qP,lenOf,bu],h⟩
 ·exact ⟨_,rfl,h⟩
 ·exact ⟨_,rfl,h⟩
 ·cases h
def Yg (mx:Bool):TV G->List (TV G)->Option (TV G)
 | x,[]=>some x
 | .int k a,.int _ b::r=>Yg mx (.int k (if mx then UW a b else abR a b)) r
 | _,_=>none
theorem Gu {g:Ge G} {ln:Nat->Nat}:∀ {mx:Bool} {l:List (TV G)} {x v:TV G},Yg mx x l=some v->jA (if mx then max2 else min2) (x.av g ln) (TV.aP g ln l)=some (v.av g ln)
 | mx,[],x,v,h=>by
  unfold Yg at h;injection h with h;subst h;rfl
 | mx,y::r,x,v,h=>by
  unfold Yg at h;split at h
  ·rename_i e;cases e
  ·rename_i k a k' b r' e;injection e with e1 e2;subst e1;subst e2
   have:=Gu (g:=g) (ln:=ln) h;rw [TV.aP,jA]
   cases mx with
   | true=>simp only [if_true,TV.av,max2] at this ⊢;exact this
   | false=>simp only [za9,if_false,TV.av,min2] at this ⊢;exact this
  ·cases h
end
end oe
