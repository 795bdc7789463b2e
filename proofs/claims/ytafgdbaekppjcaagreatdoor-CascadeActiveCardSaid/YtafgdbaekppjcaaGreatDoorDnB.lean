/- Typed states: operations that compute and operations that read. No condition. -/
import Derived.Test.YtafgdbaekppjcaaGreatDoorAmP0
set_option linter.unusedSectionVars false
set_option linter.unusedVariables false
set_option linter.unusedSimpArgs false
namespace oZ
open Go hiding Obj mark
open Go.Pl Go.Am Go.Am.As
section
variable {G:Nat->Type} {R:Type}
theorem IX {α:Type} {x:α} {P:Prop} (h:(none:Option α)=some x):P:=nomatch h
def nw (n:Nat) (ag:Bool) (cs:List (TV G)) (o:Nat):Option (TV G):=
 if ag then (if o+n<=cs.length then some (.agg ((cs.drop o).take n)) else none) else cs[o]?
theorem fQ {g:Ge G} {ln:Nat->Nat} {n:Nat} {ag:Bool} {cs:List (TV G)} {o:Nat} {v:TV G} (h:nw n ag cs o=some v):part n ag (TV.aS g ln cs) o=some (v.av g ln):=by
 unfold nw at h;unfold Am.part
 cases ag with
 | true=>
  simp only [if_true] at h ⊢;rw [dH];split at h
  case isFalse=>cases h
  rename_i hc;rw [if_pos hc];injection h with h;subst h
  rw [TV.av,bU,bU,zbP,List.map_drop]
 | false=>
  simp only [za8,if_false] at h ⊢;rw [bU,zay,h];rfl
def JT:TV G->Bool
 | .agg _ | .bl _ | .arr ..=>false
 | .raw v=>v.one
 | _=>true
theorem Qx (g:Ge G) (ln:Nat->Nat) {v:TV G} (h:JT v=true):(v.av g ln).one=true:=by
 cases v with
 | agg l=>cases h
 | bl l=>cases h
 | arr n t a=>cases h
 | raw v=>exact h
 | gC t o=>cases o<;>rfl
 | eg t o=>cases o<;>rfl
 | sa id lo len=>show AV.one (if len=0 then .ro [] else .arr id 1 0 lo 1 len)=true;split<;>rfl
 | _=>rfl
def iB:List (TV G)->Bool
 | []=>true
 | x::xs=>JT x&&iB xs
theorem ga (g:Ge G) (ln:Nat->Nat):∀ {l:List (TV G)},iB l=true->aV (TV.aS g ln l)=true
 | [],_=>rfl
 | x::l,h=>by
  simp only [iB,za0] at h;simp only [TV.aS,aV,Qx g ln h.1,ga g ln h.2,zbO]
def mo:List (TV G)->Nat->List (TV G)->List (TV G)
 | cs,_,[]=>cs
 | cs,o,x::xs=>mo (cs.set o x) (o+1) xs
theorem oK (g:Ge G) (ln:Nat->Nat):∀ (xs cs:List (TV G)) (o:Nat),TV.aS g ln (mo cs o xs)=putAt (TV.aS g ln cs) o (TV.aS g ln xs)
 | [],_,_=>rfl
 | x::xs,cs,o=>by
  rw [mo,oK g ln xs,TV.aS,putAt];congr 1;rw [bU,bU,zbJ]
theorem yd:∀ (xs cs:List (TV G)) (o:Nat),(mo cs o xs).length=cs.length
 | [],_,_=>rfl
 | x::xs,cs,o=>by rw [mo,yd xs];simp
def GC (g:Ge G):List (TV G)->List (Nat×Nat×TV G)->Option (List (TV G))
 | cs,[]=>some cs
 | cs,(o,n,v)::r=>if Nat.beq (v.cells g).length n&&(Nat.ble (o+n) cs.length&&iB (v.cells g)) then GC g (mo cs o (v.cells g)) r else none
theorem Dq {g:Ge G} {ln:Nat->Nat}:∀ {r:List (Nat×Nat×TV G)} {cs l:List (TV G)},GC g cs r=some l->nv (TV.aS g ln cs) (r.map fun p=>(p.1,p.2.1,p.2.2.av g ln))=some (TV.aS g ln l)
 | [],cs,l,h=>by injection h with h;subst h;rfl
 | (o,n,v)::r,cs,l,h=>by
  rw [GC] at h;split at h
  case isFalse=>cases h
  rename_i hc;simp only [za0] at hc;have h1:=za3 hc.1;have h2:=zau hc.2.1;rw [za5,nv,dD,if_pos ⟨by rw [dH];exact h1,by rw [dH];exact h2,ga g ln hc.2.2⟩,<-oK];exact Dq h
def KC (p:Bool) (u v:TV G) (k:TV G->Option R):Option R:=match u,v with
 | .int k1 x,.int k2 y=>if k1=k2 then k (.int k1 (cond p x y)) else none
 | .bool x,.bool y=>k (.bool (cond p x y))
 | .str x,.str y=>k (.str (cond p x y))
 | u,v=>cond p (k u) (k v)
theorem M7 {g:Ge G} {ln:Nat->Nat} {p:Bool} {u v:TV G} {k:TV G->Option R} {r:R} (h:KC p u v k=some r):∃ w:TV G,w.av g ln=cond p (u.av g ln) (v.av g ln)/\k w=some r:=by
 unfold KC at h;split at h
 ·rename_i k1 x k2 y;split at h
  case isFalse=>cases h
  rename_i e;subst e;exact ⟨_,by cases p<;>rfl,h⟩
 ·exact ⟨_,by cases p<;>rfl,h⟩
 ·exact ⟨_,by cases p<;>rfl,h⟩
 ·cases p with
  | true=>exact ⟨u,rfl,h⟩
  | false=>exact ⟨v,rfl,h⟩
def R3 (op:BinOp) (k:IntKind) (a b:Int) (c:TV G->Option R):Option R:=match op with
 | .add=>c (.int k (aI k a b))
 | .sub=>c (.int k (cB k a b))
 | .mul=>c (.int k (cE k a b))
 | .quo=>(Ie k a b).bind fun v=>c (.int k v)
 | .rem=>(mV a b).bind fun v=>c (.int k v)
 | .and=>c (.int k (eY k a b))
 | .or=>c (.int k (Sq k a b))
 | .eql=>c (.bool (a==b))
 | .neq=>c (.bool (a !=b))
 | .lss=>c (.bool (decide (a < b)))
 | .leq=>c (.bool (decide (a<=b)))
 | .gtr=>c (.bool (decide (a > b)))
 | .geq=>c (.bool (decide (a≥b)))
 | _=>none
def R4 (op:BinOp) (a b:List UInt8) (c:TV G->Option R):Option R:=match op with
 | .add=>(mX a b).bind fun v=>c (.str v)
 | .eql=>c (.bool (a==b))
 | .neq=>c (.bool (!(a==b)))
 | .lss=>c (.bool (Op.bytesLess a b))
 | .leq=>c (.bool (Op.bytesLess a b||a==b))
 | .gtr=>c (.bool (!(Op.bytesLess a b||a==b)))
 | .geq=>c (.bool (!(Op.bytesLess a b)))
 | _=>none
def JW (op:BinOp) (x y:TV G) (c:TV G->Option R):Option R:=match x,y with
 | .int k a,.int k' b=>(match op with
  | .shl=>(Xj k a b).bind fun v=>c (.int k v)
  | .shr=>(Xk k a b).bind fun v=>c (.int k v)
  | op=>if k=k' then R3 op k a b c else none)
 | .str a,.str b=>R4 op a b c
 | _,_=>none
theorem M8 {g:Ge G} {ln:Nat->Nat} {op:BinOp} {k:IntKind} {a b:Int} {c:TV G->Option R} {r:R} (h:R3 op k a b c=some r):∃ w:TV G,AM op k a b=some (w.av g ln)/\c w=some r:=by
 cases op<;>first
  | exact ⟨_,rfl,h⟩
  | (obtain ⟨v,h1,h2⟩:=bind_some h
     refine ⟨_,?_,h2⟩;first
     | (unfold Ie at h1;split at h1;· cases h1
        rename_i h0;injection h1 with h1;subst h1
        simp only [AM,if_neg h0,TV.av])
     | (unfold mV at h1;split at h1;· cases h1
        rename_i h0;injection h1 with h1;subst h1
        simp only [AM,if_neg h0,TV.av]))
  | cases h
theorem M9 {g:Ge G} {ln:Nat->Nat} {op:BinOp} {a b:List UInt8} {c:TV G->Option R} {r:R} (h:R4 op a b c=some r):∃ w:TV G,Ip op a b=some (w.av g ln)/\c w=some r:=by
 cases op<;>first
  | exact ⟨_,rfl,h⟩
  | (obtain ⟨v,h1,h2⟩:=bind_some h
     refine ⟨_,?_,h2⟩;unfold mX at h1;split at h1
     ·rename_i h0;injection h1 with h1;subst h1
      simp only [Ip,if_pos h0,TV.av]
     ·cases h1)
  | cases h
theorem Qy {g:Ge G} {ln:Nat->Nat} {op:BinOp} {x y:TV G} {c:TV G->Option R} {r:R} (h:JW op x y c=some r):∃ w:TV G,Am.bin op (x.av g ln) (y.av g ln)=some (w.av g ln)/\c w=some r:=by
 unfold JW at h;split at h
 ·rename_i k a k' b
  cases op
  case shl=>
   obtain ⟨v,h1,h2⟩:=bind_some h;refine ⟨_,?_,h2⟩;unfold Xj at h1;split at h1
   ·cases h1
   rename_i h0;injection h1 with h1;subst h1
   simp only [TV.av,Am.bin,if_neg h0]
  case shr=>
   obtain ⟨v,h1,h2⟩:=bind_some h;refine ⟨_,?_,h2⟩;unfold Xk at h1;split at h1
   ·cases h1
   rename_i h0;injection h1 with h1;subst h1
   simp only [TV.av,Am.bin,if_neg h0]
  all_goals
   (dsimp only at h
    split at h
    case isFalse=>cases h
    rename_i e;subst e;obtain ⟨w,h1,h2⟩:=M8 (g:=g) (ln:=ln) h;exact ⟨w,by simp only [TV.av,Am.bin,if_true];exact h1,h2⟩)
 ·obtain ⟨w,h1,h2⟩:=M9 (g:=g) (ln:=ln) h;exact ⟨w,h1,h2⟩
 ·cases h
def unV (op:UnOp) (x:TV G) (c:TV G->Option R):Option R:=match op,x with
 | .neg,.int k n=>c (.int k (cB k 0 n))
 | .not,.bool b=>c (.bool (!b))
 | _,_=>none
theorem Vb {g:Ge G} {ln:Nat->Nat} {op:UnOp} {x:TV G} {c:TV G->Option R} {r:R} (h:unV op x c=some r):∃ w:TV G,Am.un op (x.av g ln)=some (w.av g ln)/\c w=some r:=by
 unfold unV at h;split at h
 ·exact ⟨_,rfl,h⟩
 ·exact ⟨_,rfl,h⟩
 ·cases h
def TE:CK->TV G->TV G->Option Bool
 | .bool,.bool a,.bool b=>some (a==b)
 | .int k,.int k1 a,.int k2 b=>if k1=k/\k2=k then some (a==b) else none
 | .str,.str a,.str b=>some (a==b)
 | _,_,_=>none
theorem Qz {g:Ge G} {ln:Nat->Nat} {k:CK} {x y:TV G} {b:Bool} (h:TE k x y=some b):eI k (x.av g ln) (y.av g ln)=some b:=by
 unfold TE at h;split at h
 ·exact h
 ·exact h
 ·exact h
 ·cases h
def GD:List CK->List (TV G)->List (TV G)->Option Bool
 | [],[],[]=>some true
 | k::ks,x::xs,y::ys=>(match TE k x y with
  | some a=>(match GD ks xs ys with | some b=>some (a&&b) | none=>none)
  | none=>none)
 | _,_,_=>none
theorem Dr {g:Ge G} {ln:Nat->Nat}:∀ {ks:List CK} {xs ys:List (TV G)} {b:Bool},GD ks xs ys=some b->bI ks (TV.aS g ln xs) (TV.aS g ln ys)=some b
 | [],[],[],b,h=>h
 | k::ks,x::xs,y::ys,b,h=>by
  rw [GD] at h;split at h
  case h_2=>cases h
  rename_i a ha;split at h
  case h_2=>cases h
  rename_i b' hb;injection h with h;subst h
  simp only [TV.aS,bI,Qz ha,Dr hb]
 | [],[],_::_,_,h=>by cases h
 | [],_::_,_,_,h=>by cases h
 | _::_,[],_,_,h=>by cases h
 | _::_,_::_,[],_,h=>by cases h
def J2 (k:CK):Nat->List CK->Bool
 | 0,[]=>true
 | n+1,k'::ks=>decide (k'=k)&&J2 k n ks
 | _,_=>false
theorem Bw {k:CK}:∀ {n:Nat} {ks:List CK},J2 k n ks=true->ks=List.replicate n k
 | 0,[],_=>rfl
 | n+1,k'::ks,h=>by
  simp only [J2,za0,decide_eq_true_eq] at h;rw [h.1,Bw h.2];rfl
 | 0,_::_,h=>by cases h
 | _+1,[],h=>by cases h
def OX (ks:List CK) (n:Nat):(t:Ty)->fh n (t.D G)->fh n (t.D G)->Option Bool
 | .bool,a,b=>if J2 .bool n ks then some ((show List Bool from a.1)==(show List Bool from b.1)) else none
 | .int k,a,b=>if J2 (.int k) n ks then some ((show List Int from a.1)==(show List Int from b.1)) else none
 | _,_,_=>none
def TF (g:Ge G) (neg:Bool) (ks:List CK) (x y:TV G) (c:TV G->Option R):Option R:=match x,y with
 | .agg xs,.agg ys=>(match GD ks xs ys with | some b=>c (.bool (b !=neg)) | none=>none)
 | .arr n t a,y=>(match yC g (.arr n t) y with
  | some b=>(match OX ks n t a b with | some b=>c (.bool (b !=neg)) | none=>none)
  | none=>none)
 | _,_=>none
theorem zg {α:Type} {f:α->AV}:∀ l:List α,(l.map fun x=>[f x]).flatten=l.map f
 | []=>rfl
 | x::l=>by rw [za5,zaS,zg l];rfl
theorem Vc {n:Nat} (a b:fh n Bool):bI (List.replicate n .bool) (a.1.map fun x=>[AV.bool x]).flatten (b.1.map fun x=>[AV.bool x]).flatten=some (a.1==b.1):=by
 rw [zg (f:=AV.bool),zg (f:=AV.bool)];have:=Dt a.1 b.1 (by rw [a.2,b.2]);rw [a.2] at this;exact this
theorem Vd {n:Nat} {k:IntKind} (a b:fh n Int):bI (List.replicate n (.int k)) (a.1.map fun x=>[AV.int k x]).flatten (b.1.map fun x=>[AV.int k x]).flatten=some (a.1==b.1):=by
 rw [zg (f:=AV.int k),zg (f:=AV.int k)];have:=Du k a.1 b.1 (by rw [a.2,b.2]);rw [a.2] at this;exact this
theorem QA {g:Ge G} {ks:List CK} {n:Nat}:∀ {t:Ty} {a b:fh n (t.D G)} {r:Bool},OX ks n t a b=some r->bI ks (List.map (enc g t) a.1).flatten (List.map (enc g t) b.1).flatten=some r
 | .bool,a,b,r,h=>by
  unfold OX at h;dsimp only at h;split at h
  case isFalse=>cases h
  rename_i hk;injection h with h;subst h
  rw [Bw hk];exact Vc (show fh n Bool from a) b
 | .int k,a,b,r,h=>by
  unfold OX at h;dsimp only at h;split at h
  case isFalse=>cases h
  rename_i hk;injection h with h;subst h
  rw [Bw hk];exact Vd (show fh n Int from a) b
 | .str,_,_,_,h | .list _,_,_,_,h | .kq _,_,_,_,h | .st _,_,_,_,h | .arr _ _,_,_,_,h | .ptr _,_,_,_,h | .eg _,_,_,_,h=>by cases h
theorem QB {g:Ge G} (hg:g.Ok) {ln:Nat->Nat} {neg:Bool} {ks:List CK} {x y:TV G} {c:TV G->Option R} {r:R} (h:TF g neg ks x y c=some r):∃ w:TV G,Am.BZ neg ks (x.av g ln) (y.av g ln)=some (w.av g ln)/\c w=some r:=by
 unfold TF at h;split at h
 ·split at h
  case h_2=>cases h
  rename_i b hb;refine ⟨_,?_,h⟩;simp only [TV.av,Am.BZ,Dr hb]
 ·rename_i n t a y;split at h
  case h_2=>cases h
  rename_i b hb;split at h
  case h_2=>cases h
  rename_i e he;refine ⟨_,?_,h⟩;rw [mq hg ln _ _ _ hb];simp only [TV.av,va,Am.BZ,QA he]
 ·cases h
def XV (neg:Bool) (x y:TV G) (c:TV G->Option R):Option R:=match x,y with
 | .bool a,.bool b=>c (.bool ((a==b) !=neg))
 | _,_=>none
def KD:TV G->Option Bool
 | .raw .g7=>some true
 | .bZ _=>some false
 | .po ..=>some false
 | .pe ..=>some false
 | .pa ..=>some false
 | _=>none
theorem Na {g:Ge G} {ln:Nat->Nat} {x:TV G} {b:Bool} (h:KD x=some b):pY (x.av g ln)=some b:=by
 unfold KD at h;split at h<;>first | exact h | cases h
def XW (neg:Bool) (x y:TV G) (c:TV G->Option R):Option R:=match y with
 | .raw .g7=>(match KD x with | some b=>c (.bool (b !=neg)) | none=>none)
 | _=>none
def R5:TV G->Option (TV G)
 | .bZ cs=>some (.bZ cs)
 | .po id o=>some (.po id o)
 | .pe id i o=>some (.pe id i o)
 | .fn f cap=>some (.fn f cap)
 | _=>none
def ES (off:Nat):TV G->Option (TV G)
 | .bZ cs=>if off<=cs.length then some (.bZ (cs.drop off)) else none
 | .po id o=>some (.po id (o+off))
 | .pe id i o=>some (.pe id i (o+off))
 | .pa id sz i o=>some (.pa id sz i (o+off))
 | _=>none
theorem Hx {g:Ge G} {ln:Nat->Nat} {off:Nat} {x v:TV G} (h:ES off x=some v):Am.u0 off (x.av g ln)=some (v.av g ln):=by
 unfold ES at h;split at h
 ·split at h
  case isFalse=>cases h
  rename_i hc;injection h with h;subst h
  show (if off<=(TV.aS g ln _).length then _ else _)=_;rw [dH,if_pos hc,TV.av,bU,bU,List.map_drop]
 ·injection h with h;subst h;rfl
 ·injection h with h;subst h;rfl
 ·injection h with h;subst h;show some (AV.aA _ _ _ _)=some (AV.aA _ _ _ _);rw [Nat.add_assoc]
 ·cases h
def OY:TV G->Option (IntKind×Int)
 | .int k n=>some (k,n)
 | .raw v=>(match v with | .int k n=>some (k,n) | _=>none)
 | _=>none
theorem QC {g:Ge G} {ln:Nat->Nat} {v:TV G} {p:IntKind×Int} (h:OY v=some p):v.av g ln= .int p.1 p.2:=by
 unfold OY at h;split at h
 ·injection h with h;subst h;rfl
 ·split at h
  ·injection h with h;subst h;rfl
  ·cases h
 ·cases h
def GF (k:IntKind):List (TV G)->Option (List Int)
 | []=>some []
 | x::r=>(match OY x with
  | some p=>if p.1=k then (match GF k r with | some l=>some (p.2::l) | none=>none) else none
  | none=>none)
theorem Dv {g:Ge G} {ln:Nat->Nat} {k:IntKind}:∀ {l:List (TV G)} {q:List Int},GF k l=some q->TV.aS g ln l=q.map fun n=>AV.int k n
 | [],q,h=>by cases h;rfl
 | x::r,q,h=>by
  unfold GF at h;split at h
  case h_2=>cases h
  rename_i p hp;split at h
  case isFalse=>cases h
  rename_i hk;split at h
  case h_2=>cases h
  rename_i m hm;injection h with h;subst h
  rw [TV.aS,QC hp,Dv hm,hk];rfl
theorem Dw (g:Ge G) (ln:Nat->Nat) (k:IntKind):∀ l:List Int,TV.aS g ln (l.map (TV.int k))=l.map fun n=>AV.int k n
 | []=>rfl
 | x::l=>by rw [za5,TV.aS,Dw g ln k l];rfl
def TG (len sz:Nat) (cs:List (TV G)):Option (IntKind×List Int):=match cs with
 | []=>none
 | x::_=>(match OY x with
  | some p=>(match GF p.1 cs with | some l=>if Nat.beq sz 1&&Nat.beq l.length len then some (p.1,l) else none | none=>none)
  | none=>none)
theorem QD {g:Ge G} {ln:Nat->Nat} {len sz:Nat} {cs:List (TV G)} {p:IntKind×List Int} (h:TG len sz cs=some p):TV.aS g ln cs=p.2.map (fun n=>AV.int p.1 n)/\sz=1/\p.2.length=len:=by
 unfold TG at h;split at h
 ·cases h
 ·split at h
  case h_2=>cases h
  split at h
  case h_2=>cases h
  rename_i l hl;split at h
  case isFalse=>cases h
  rename_i hc;rw [za0] at hc;injection h with h;subst h
  exact ⟨Dv hl,za3 hc.1,za3 hc.2⟩
def AE (n:Int) (f:Nat->Option R):Nat->Nat->Option R
 | 0,_=>none
 | m+1,i=>if n=(i:Int) then f i else AE n f m (i+1)
theorem vc {n:Int} {f:Nat->Option R} {r:R}:∀ {m i:Nat},AE n f m i=some r->∃ j,j < i+m/\n=(j:Int)/\f j=some r
 | 0,i,h=>by cases h
 | m+1,i,h=>by
  rw [AE] at h;split at h
  ·rename_i e;exact ⟨i,by omega,e,h⟩
  ·obtain ⟨j,h1,h2⟩:=vc h;exact ⟨j,by omega,h2⟩
def KE (g:Ge G) (H:List (TO G)) (len sz:Nat) (x i:TV G) (c:TV G->Option R):Option R:=match i with
 | .int k n=>(match x with
  | .po id o=>(match H[id]? with
   | some (.arr m t a)=>if Nat.beq o 0&&(Nat.beq m len&&Nat.beq (t.n g) sz) then (oT a n).bind fun _=>c (.pa id sz n 0) else none
   | _=>AE n (fun j=>match ES (j*sz) x with | some v=>c v | none=>none) len 0)
  | .bZ cs=>(match TG len sz cs with
   | some p=>(idx p.2 n).bind fun v=>c (.bZ (.int p.1 v::(p.2.drop (n.toNat+1)).map (TV.int p.1)))
   | none=>AE n (fun j=>match ES (j*sz) x with | some v=>c v | none=>none) len 0)
  | x=>AE n (fun j=>match ES (j*sz) x with | some v=>c v | none=>none) len 0)
 | _=>none
theorem oi {n:Nat} {α:Type} {a:fh n α} {i:Int} {v:α} (h:oT a i=some v):0<=i/\i < (n:Int)/\a.1[i.toNat]?=some v:=by
 unfold oT idx at h;split at h
 case isFalse=>cases h
 obtain ⟨h1,_⟩:=zaa.1 h;rw [a.2] at h1;exact ⟨by assumption,by omega,h⟩
theorem Nb {g:Ge G} {ln:Nat->Nat} {H:List (TO G)} {len sz:Nat} {x i:TV G} {c:TV G->Option R} {r:R} (h:KE g H len sz x i c=some r):∃ w:TV G,Am.mc len sz (x.av g ln) (i.av g ln)=some (w.av g ln)/\c w=some r:=by
 have lit:∀ {k:IntKind} {n:Int} {x:TV G},AE n (fun j=>match ES (j*sz) x with | some v=>c v | none=>none) len 0=some r->∃ w:TV G,Am.mc len sz (x.av g ln) (.int k n)=some (w.av g ln)/\c w=some r:=by
  intro k n x h;obtain ⟨j,h1,rfl,h2⟩:=vc h;split at h2
  case h_2=>cases h2
  rename_i v hv;refine ⟨v,?_,h2⟩;simp only [Am.mc];rw [if_pos ⟨by omega,by omega⟩,zbj,Hx hv]
 unfold KE at h;split at h
 case h_2=>cases h
 rename_i k n;split at h
 ·rename_i id o;split at h
  ·rename_i m t a hid;split at h
   case isFalse=>cases h
   rename_i hc;simp only [za0] at hc;have e1:=za3 hc.1;have e2:=za3 hc.2.1;have e3:=za3 hc.2.2;subst e1;subst e2;subst e3;obtain ⟨v,h1,h2⟩:=bind_some h;obtain ⟨h3,h4,_⟩:=oi h1;refine ⟨_,?_,h2⟩;simp only [TV.av,Am.mc,if_pos (And.intro h3 h4),Am.u0,zaD,zbt]
  ·exact lit h
 ·rename_i cs;split at h
  ·rename_i p hp;obtain ⟨e1,e2,e3⟩:=QD (g:=g) (ln:=ln) hp;obtain ⟨v,h1,h2⟩:=bind_some h;unfold idx at h1;split at h1
   case isFalse=>cases h1
   rename_i h0;obtain ⟨h3,h4⟩:=zaa.1 h1;subst e2;refine ⟨_,?_,h2⟩;simp only [TV.av,Am.mc];rw [if_pos ⟨h0,by omega⟩,e1,zbH];show Am.u0 n.toNat (.bZ _)=some (AV.bZ (TV.aS g ln (_::_)));rw [TV.aS,Dw];simp only [Am.u0,zah];rw [if_pos (by omega),<-List.map_drop,List.drop_eq_getElem_cons h3,h4];rfl
  ·exact lit h
 ·exact lit h
def KF (g:Ge G) (len n:Nat) (ag:Bool) (x i:TV G) (c:TV G->Option R):Option R:=match i with
 | .int k j=>(match x with
  | .agg cs=>AE j (fun j=>match nw n ag cs (j*n) with | some v=>c v | none=>none) len 0
  | .arr m t a=>if Nat.beq m len&&(Nat.beq (t.n g) n&&Nat.beq n 1) then (oT a j).bind fun v=>(match nw n ag ((view g t v).cells g) 0 with | some v=>c v | none=>none) else none
  | _=>none)
 | _=>none
theorem Bf {α:Type} {C:α->List AV} {n:Nat} (hC:∀ a,(C a).length=n) {l:List α} {k:Nat} {x:α} (h:l[k]?=some x) {ag:Bool} {w:AV} {o m:Nat} (ho:o+m<=n) (hm:ag=false->m=1) (hw:Am.part m ag (C x) o=some w):Am.part m ag (l.map C).flatten (k*n+o)=some w:=by
 obtain ⟨hk,hx⟩:=zaa.1 h;obtain ⟨h1,h2⟩:=Hy hC l k hk;rw [hx] at h2;unfold Am.part at hw ⊢
 cases ag with
 | true=>
  simp only [if_true] at hw ⊢;rw [if_pos (by omega)];split at hw
  case isFalse=>cases hw
  rw [<-hw,<-h2];congr 2;rw [List.drop_take,List.take_take,zbG];congr 1;omega
 | false=>
  simp only [za8,if_false] at hw ⊢;have:=hm rfl;rw [<-hw,<-h2,zb5,if_pos (by omega),List.getElem?_drop]
theorem Nc {g:Ge G} (hg:g.Ok) {ln:Nat->Nat} {len n:Nat} {ag:Bool} {x i:TV G} {c:TV G->Option R} {r:R} (h:KF g len n ag x i c=some r):∃ w:TV G,Am.nj len n ag (x.av g ln) (i.av g ln)=some (w.av g ln)/\c w=some r:=by
 unfold KF at h;split at h
 case h_2=>cases h
 rename_i k j;split at h
 ·rename_i cs;obtain ⟨q,h1,rfl,h2⟩:=vc h;split at h2
  case h_2=>cases h2
  rename_i v hv;refine ⟨v,?_,h2⟩;simp only [TV.av,Am.nj];rw [if_pos ⟨by omega,by omega⟩,zbj,fQ hv]
 ·rename_i m t a;split at h
  case isFalse=>cases h
  rename_i hc;simp only [za0] at hc;have e1:=za3 hc.1;have e2:=za3 hc.2.1;have e3:=za3 hc.2.2;subst e1;subst e3;obtain ⟨v,h1,h2⟩:=bind_some h;obtain ⟨h3,h4,h5⟩:=oi h1;split at h2
  case h_2=>cases h2
  rename_i w hw;refine ⟨w,?_,h2⟩;simp only [TV.av,Am.nj,if_pos (And.intro h3 h4)];have h6:=fQ (g:=g) (ln:=ln) hw;rw [gO hg] at h6;have h7:=Bf (o:=0) (c6 hg t).len h5 (by rw [e2];exact za6 _) (fun _=>rfl) h6;rw [e2] at h7;exact h7
 ·cases h
def KG (x i:TV G) (c:TV G->Option R):Option R:=match x,i with
 | .str l,.int _ n=>(idx l n).bind fun v=>c (.int .u8 (v.toNat:Int))
 | _,_=>none
theorem Nd {g:Ge G} {ln:Nat->Nat} {x i:TV G} {c:TV G->Option R} {r:R} (h:KG x i c=some r):∃ w:TV G,Am.oU (x.av g ln) (i.av g ln)=some (w.av g ln)/\c w=some r:=by
 unfold KG at h;split at h
 case h_2=>cases h
 obtain ⟨v,h1,h2⟩:=bind_some h;refine ⟨_,?_,h2⟩;unfold idx at h1;split at h1
 case isFalse=>cases h1
 rename_i h0;simp only [TV.av,Am.oU,if_pos h0,h1]
def AF:Option (TV G)->Option (Option Int)
 | none=>some none
 | some (.int _ n)=>some (some n)
 | _=>none
theorem QE {g:Ge G} {ln:Nat->Nat} {o:Option (TV G)} {b:Option Int} (h:AF o=some b):(o=none/\b=none)\/∃ k n,o=some (.int k n)/\b=some n:=by
 unfold AF at h;split at h
 ·injection h with h;exact .inl ⟨rfl,h.symm⟩
 ·injection h with h;exact .inr ⟨_,_,rfl,h.symm⟩
 ·cases h
theorem Bg {α:Type} {l v:List α} {lo hi:Option Int} (h:oS l lo hi=some v) {lo' hi':Option AV} (el:(lo'=none/\lo=none)\/∃ k n,lo'=some (.int k n)/\lo=some n) (eh:(hi'=none/\hi=none)\/∃ k n,hi'=some (.int k n)/\hi=some n):
 ∃ a b:Nat,b8 l.length l.length hi'=some b/\b8 0 b lo'=some a/\a<=b/\b<=l.length/\v=(l.drop a).take (b - a)/\(lo.getD 0).toNat=a/\(hi.getD l.length).toNat=b:=by
 unfold oS at h;split at h
 case isFalse=>cases h
 rename_i hc;injection h with h
 obtain ⟨h1,h2,h3⟩:=hc;have hb:∃ b:Nat,b8 l.length l.length hi'=some b/\hi.getD l.length=(b:Int)/\b<=l.length:=by
  rcases eh with ⟨rfl,rfl⟩ | ⟨k,n,rfl,rfl⟩
  ·exact ⟨l.length,rfl,rfl,za6 _⟩
  ·simp only [zar] at h2 h3 ⊢;exact ⟨n.toNat,by show (if 0<=n/\n<=(l.length:Int) then some n.toNat else none)=_;rw [if_pos ⟨by omega,h3⟩],by omega,by omega⟩
 obtain ⟨b,y9,EC,hb3⟩:=hb;have ha:∃ a:Nat,b8 0 b lo'=some a/\lo.getD 0=(a:Int)/\a<=b:=by
  rcases el with ⟨rfl,rfl⟩ | ⟨k,n,rfl,rfl⟩
  ·exact ⟨0,rfl,rfl,zaJ _⟩
  ·simp only [zar] at h1 h2 ⊢;exact ⟨n.toNat,by show (if 0<=n/\n<=(b:Int) then some n.toNat else none)=_;rw [if_pos ⟨h1,by omega⟩],by omega,by omega⟩
 obtain ⟨a,Rp,ha2,ha3⟩:=ha;refine ⟨a,b,y9,Rp,ha3,hb3,?_,by omega,by omega⟩;rw [<-h,ha2,EC];rfl
def KH (x:TV G) (lo hi:Option (TV G)) (c:TV G->Option R):Option R:=match x,AF lo,AF hi with
 | .str l,some a,some b=>(oS l a b).bind fun v=>c (.str v)
 | _,_,_=>none
theorem oj {g:Ge G} {ln:Nat->Nat} {o:Option (TV G)} {b:Option Int} (h:AF o=some b):(o.map (TV.av g ln)=none/\b=none)\/∃ k n,o.map (TV.av g ln)=some (.int k n)/\b=some n:=by
 rcases QE (g:=g) (ln:=ln) h with ⟨rfl,rfl⟩ | ⟨k,n,rfl,rfl⟩
 ·exact .inl ⟨rfl,rfl⟩
 ·exact .inr ⟨k,n,rfl,rfl⟩
theorem Nf {g:Ge G} {ln:Nat->Nat} {x:TV G} {lo hi:Option (TV G)} {c:TV G->Option R} {r:R} (h:KH x lo hi c=some r):∃ w:TV G,Am.oV (x.av g ln) (lo.map (TV.av g ln)) (hi.map (TV.av g ln))=some (w.av g ln)/\c w=some r:=by
 unfold KH at h;split at h
 case h_2=>cases h
 rename_i l a b ha hb;obtain ⟨v,h1,h2⟩:=bind_some h;refine ⟨_,?_,h2⟩;obtain ⟨p,q,e1,e2,_,_,e5,_,_⟩:=Bg h1 (oj (g:=g) (ln:=ln) ha) (oj (g:=g) (ln:=ln) hb);show (match b8 l.length l.length _ with | some h=>_ | none=>none)=_;rw [e1];dsimp only;rw [e2,e5];rfl
def TH (H:List (TO G)) (st:Bool) (x:TV G) (c:TV G->Option R):Option R:=match st,x with
 | true,.str l=>c (.int .i64 (l.length:Int))
 | false,.aL t l=>c (.int .i64 (l.length:Int))
 | false,.gC t l=>c (.int .i64 ((l.getD []).length:Int))
 | false,.qx es=>c (.int .i64 (es.length:Int))
 | false,.own id=>c (.int .i64 (kg H id:Int))
 | false,.raw .bD=>c (.int .i64 0)
 | _,_=>none
theorem QF {g:Ge G} {s:DS G} {st:Bool} {x:TV G} {c:TV G->Option R} {r:R} (h:TH s.H st x c=some r):∃ w:TV G,(match qI st (x.av g s.ln) with | some n=>some (AV.int .i64 n) | none=>none)=some (w.av g s.ln)/\c w=some r:=by
 unfold TH at h;split at h
 ·exact ⟨_,rfl,h⟩
 ·rename_i t l;exact ⟨_,by simp [TV.av,qI,lenOf],h⟩
 ·rename_i t l;refine ⟨_,?_,h⟩
  cases l with
  | none=>rfl
  | some l=>simp [TV.av,qI,lenOf,Cc]
 ·rename_i es;exact ⟨_,by simp [TV.av,qI,lenOf,br],h⟩
 ·exact ⟨_,rfl,h⟩
 ·exact ⟨_,rfl,h⟩
 ·cases h
def Wh (mx:Bool):TV G->List (TV G)->Option (TV G)
 | x,[]=>some x
 | .int k a,.int _ b::r=>Wh mx (.int k (if mx then SP a b else aac a b)) r
 | _,_=>none
theorem Fk {g:Ge G} {ln:Nat->Nat}:∀ {mx:Bool} {l:List (TV G)} {x v:TV G},Wh mx x l=some v->jB (if mx then max2 else min2) (x.av g ln) (TV.aS g ln l)=some (v.av g ln)
 | mx,[],x,v,h=>by
  unfold Wh at h;injection h with h;subst h;rfl
 | mx,y::r,x,v,h=>by
  unfold Wh at h;split at h
  ·rename_i e;cases e
  ·rename_i k a k' b r' e;injection e with e1 e2;subst e1;subst e2
   have:=Fk (g:=g) (ln:=ln) h;rw [TV.aS,jB]
   cases mx with
   | true=>simp only [if_true,TV.av,max2] at this ⊢;exact this
   | false=>simp only [za8,if_false,TV.av,min2] at this ⊢;exact this
  ·cases h
end
end oZ
