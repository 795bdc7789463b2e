/- Parts of my machine and its laws, joined: G33g AmP1 AmP2 P32c P32d P32e P32f P32g P32h P32i. No condition. -/
import Derived.Test.YtafgdbaekppjcaaGreatDoorG33D
import Derived.LaidMore
import Derived.OpenShut
import Derived.MakeChecks
set_option linter.unusedSectionVars false
set_option linter.unusedVariables false
set_option linter.unusedSimpArgs false
section
namespace cK
open Go.Proofs Go Go.Pl Go.Am Go.Am.As Go.ChangeShapes Go.WideShapes Go.ChangeAt Go.WideMaps Go.WideElems Go.RowKit
set_option maxRecDepth 100000
theorem Zp:Tryz.prog.globalNamed "pneumatic/group.bits" =some 0:=by kernel_rfl
theorem Zq:(Tryz.prog.globals[0]?).map (·.type)=some 294:=by kernel_rfl
abbrev wq {H:Type}:List (String×DataW H):=[("math/bits.deBruijn32tab",YtafgdbaekppjcaaGreatDoor.Rows.laid_math_bits_deBruijn32tab),("math/bits.deBruijn64tab",YtafgdbaekppjcaaGreatDoor.Rows.laid_math_bits_deBruijn64tab),("internal/strconv.uint64pow10",YtafgdbaekppjcaaGreatDoor.Rows.laid_internal_strconv_uint64pow10),("pneumatic/group.bits",YtafgdbaekppjcaaGreatDoor.Rows.laid_pneumatic_group_bits)]
theorem rS {W:World} (h:laidMetH Tryz.prog wq W):∀ j (hj:j < 6),W.cell? ⟨0,j,none⟩=some (.int .u64 (([1,2,4,8,16,32]:List Int)[j])):=by
 rw [MakeChecks.laidMetH_plain _ _ _ (by kernel_rfl)] at h;obtain ⟨ps,hL,_⟩:=h;obtain ⟨_,_,_,_,_,_,_,_,_,_,hL,_⟩:=hL;obtain ⟨_,_,_,_,_,_,_,_,_,_,hL,_⟩:=hL;obtain ⟨_,_,_,_,_,_,_,_,_,_,hL,_⟩:=hL;obtain ⟨g0,t0,cs0,f0,p0,q0,hg0,ht0,EB,yK,_,_⟩:=hL;obtain rfl:=zbm (Zp.symm.trans hg0);obtain rfl:=zbm (Zq.symm.trans ht0);obtain ⟨xs,m1,q1,W2,hlen,hn3,Ia⟩:=DataW.trod_array Tryz.underlying294 yK;have c64:Tryz.prog.cellsOf 244=1:=by kernel_rfl
 intro j hj;have h0:=Ia j hj;rw [c64,zbH] at h0;have hjx:j < xs.length:=by rw [hn3];exact hj
 rw [za2 hjx] at h0;obtain ⟨n,e1,e2,_⟩:=DataW.trod_int Tryz.underlying244 h0;have hd:(xs.map (·.1))[j]?=some (.lit (.int .u64 (([1,2,4,8,16,32]:List Int)[j]))):=by
  simp only [za4] at W2;have h1:=W2.1;unfold YtafgdbaekppjcaaGreatDoor.Rows.laid_pneumatic_group_bits at h1;injection h1 with h1
  rw [<-h1];have:j=0\/j=1\/j=2\/j=3\/j=4\/j=5:=by omega
  rcases this with rfl | rfl | rfl | rfl | rfl | rfl<;>rfl
 rw [zay,za2 hjx,zaL,e2] at hd;simp only [za1,DataW.lit.injEq,Lit.int.injEq,true_and] at hd;rw [World.var?_cell hg0 EB j];have e3:cs0.toList[j]?=some (.int .u64 n):=by
  have:=congrArg (fun l=>l[0]?) e1;simp only [zb5,List.getElem?_drop] at this;simpa using this
 rw [<-hd];simpa using e3
theorem Qm {W:World} (h:laidMetH Tryz.prog wq W) (c:Ctx) (hw:c.w=W) (hO:∀ b,¬ c.O b):gY c E0.aJ:=by
 intro g;show V c (.bZ (if g=0 then _ else _)) _;split
 ·rename_i e;subst e;refine .bZ _ _ (fun j=> .int .u64 (([1,2,4,8,16,32]:List Int).getD j 0)) (fun j hj=>?_) (fun _=>⟨rfl,hO _⟩) (fun j hj=>?_) (fun j hj=>?_)
  ·have hj':j < 6:=by simpa using hj
   have:j=0\/j=1\/j=2\/j=3\/j=4\/j=5:=by omega
   rcases this with rfl | rfl | rfl | rfl | rfl | rfl<;>rfl
  ·have hj':j < 6:=by simpa using hj
   have:=rS h j hj';rw [hw];simp only [zaD];rw [this];have:j=0\/j=1\/j=2\/j=3\/j=4\/j=5:=by omega
   rcases this with rfl | rfl | rfl | rfl | rfl | rfl<;>rfl
  ·have hj':j < 6:=by simpa using hj
   have:j=0\/j=1\/j=2\/j=3\/j=4\/j=5:=by omega
   rcases this with rfl | rfl | rfl | rfl | rfl | rfl<;>exact .int _ _
 ·exact .bZ [] _ (fun _=>undef) (fun j hj=>by simp at hj) (fun h=>absurd rfl h) (fun j hj=>by simp at hj) (fun j hj=>by simp at hj)
end cK
end
section
namespace Go.Pl
theorem wrap_i64 {n:Int} (h0: -9223372036854775808<=n) (h1:n < 9223372036854775808):IntKind.i64.wrap n=n:=by
 unfold IntKind.wrap;have e1:(2:Int) ^ IntKind.i64.bits=18446744073709551616:=by decide
 have e2:(2:Int) ^ (IntKind.i64.bits - 1)=9223372036854775808:=by decide
 simp only [e1,e2,IntKind.signed,zaN,decide_eq_true_eq];split<;>omega
theorem bh {x y:Int} (h0: -9223372036854775808<=x+y) (h1:x+y < 9223372036854775808):aI .i64 x y=x+y:=wrap_i64 h0 h1
theorem fW {x y:Int} (h0: -9223372036854775808<=x - y) (h1:x - y < 9223372036854775808):cB .i64 x y=x - y:=wrap_i64 h0 h1
theorem jf {x y:Int} (h0: -9223372036854775808<=x*y) (h1:x*y < 9223372036854775808):cE .i64 x y=x*y:=wrap_i64 h0 h1
theorem an {k:Nat} (h:k < 9223372036854775807):aI .i64 (k:Int) 1=((k+1:Nat):Int):=by rw [bh (by omega) (by omega)];rfl
theorem Bh {α:Type} (l:List α) (k:Nat):idx l (k:Int)=l[k]?:=by simp [idx]
theorem aF {α:Type} {l:List α} {k:Nat} (h:k < l.length):idx l (k:Int)=some l[k]:=by simp [Bh,h]
theorem oo {α:Type} {l:List α} {i:Int} (h0:0<=i) (h1:i < l.length):∃ h:i.toNat < l.length,idx l i=some l[i.toNat]:=by
 refine ⟨by omega,?_⟩;unfold idx;rw [if_pos h0,za2 (by omega)]
theorem aO {α:Type} {bytes:Nat} {l m:List α} (h:(l.length+m.length)*bytes<=1099511627776) (h2:l.length+m.length<=1099511627776):cF bytes l m=some (l++m):=by
 unfold cF;rw [if_pos ⟨h,h2⟩]
theorem IM {τ ρ:Type} {body:Int×τ->Option ((Int×τ)⊕ρ)} {t0:τ} (n:Nat) (hn:n < fuel) (P:Nat->τ->Prop) (Q:ρ->Prop) (h0:P 0 t0)
 (h:∀ (k:Nat) (t:τ),k<=n->P k t->(∃ t',k < n/\body (k,t)=some (.inl (((k+1:Nat):Int),t'))/\P (k+1) t')\/∃ r,body (k,t)=some (.inr r)/\Q r):∃ r,iter body (0,t0)=some r/\Q r:=by
 refine zz (fun s:Int×τ=>∃ k:Nat,s.1=(k:Int)/\k<=n/\P k s.2) (fun s:Int×τ=>n - s.1.toNat) Q ⟨0,rfl,zaJ _,h0⟩ (by simp;exact hn) ?_;rintro ⟨s,t⟩ ⟨k,hs,hk,hp⟩;simp only at hs hp;subst hs;rcases h k t hk hp with ⟨t',h1,h2,h3⟩ | ⟨r,h1,h2⟩
 ·exact .inl ⟨_,h2,⟨k+1,rfl,h1,h3⟩,by simp;omega⟩
 ·exact .inr ⟨r,h1,h2⟩
theorem zV {τ ρ:Type} {body:τ×Int->Option ((τ×Int)⊕ρ)} {t0:τ} (n:Nat) (hn:n < fuel) (P:Nat->τ->Prop) (Q:ρ->Prop) (h0:P 0 t0)
 (h:∀ (k:Nat) (t:τ),k<=n->P k t->(∃ t',k < n/\body (t,k)=some (.inl (t',((k+1:Nat):Int)))/\P (k+1) t')\/∃ r,body (t,k)=some (.inr r)/\Q r):∃ r,iter body (t0,0)=some r/\Q r:=by
 refine zz (fun s:τ×Int=>∃ k:Nat,s.2=(k:Int)/\k<=n/\P k s.1) (fun s:τ×Int=>n - s.2.toNat) Q ⟨0,rfl,zaJ _,h0⟩ (by simp;exact hn) ?_;rintro ⟨t,s⟩ ⟨k,hs,hk,hp⟩;simp only at hs hp;subst hs;rcases h k t hk hp with ⟨t',h1,h2,h3⟩ | ⟨r,h1,h2⟩
 ·exact .inl ⟨_,h2,⟨k+1,rfl,h1,h3⟩,by simp;omega⟩
 ·exact .inr ⟨r,h1,h2⟩
theorem ay {α:Type} {c:Bool} {a b:α} (h:c=true):(bif c then a else b)=a:=by rw [h];rfl
theorem au {α:Type} {c:Bool} {a b:α} (h:c=false):(bif c then a else b)=b:=by rw [h];rfl
theorem bq {a b:Int} (h:a < b):decide (a < b)=true:=by simpa using h
theorem bn {a b:Int} (h:¬ a < b):decide (a < b)=false:=by simpa using h
theorem JS {a b:Int} (h:a<=b):decide (a<=b)=true:=by simpa using h
theorem TB {a b:Int} (h:¬ a<=b):decide (a<=b)=false:=by simpa using h
theorem aW {α β:Type} {m:Option α} {f:α->Option β} {v:α} (h:m=some v):m.bind f=f v:=by rw [h];rfl
end Go.Pl
end
section
namespace Go.Pl
def first {ρ:Type} (n:Nat) (g:Nat->Option ρ):Option ρ:=(List.range n).findSome? g
theorem iy {ρ:Type} {n:Nat} {g:Nat->Option ρ} (h:∀ k,k < n->g k=none):first n g=none:=by
 unfold first
 rw [zbe];intro k hk;exact h k (zac.1 hk)
theorem bu {ρ:Type} {n:Nat} {g:Nat->Option ρ}:first n g=none↔∀ k,k < n->g k=none:=by
 unfold first
 rw [zbe];exact ⟨fun h k hk=>h k (zac.2 hk),fun h k hk=>h k (zac.1 hk)⟩
theorem mE {ρ:Type} {n:Nat} {g:Nat->Option ρ} {k:Nat} {r:ρ} (hk:k < n) (h:∀ j,j < k->g j=none) (hr:g k=some r):first n g=some r:=by
 unfold first
 have e:List.range n=List.range k++(k::(List.range' (k+1) (n - (k+1)))):=by
  have h1:=List.range'_append_1 (s:=0) (m:=k) (n:=n - (k+1)+1);rw [zaD] at h1;rw [zbU,zbU,<-List.range'_succ,h1];congr 1;omega
 rw [e,List.findSome?_append];have:(List.range k).findSome? g=none:=by
  rw [zbe];intro j hj;exact h j (zac.1 hj)
 rw [this];simp [hr]
theorem bt {σ α ρ:Type} {body:σ->Option (σ⊕(α⊕ρ))} {s0:σ} (st:Nat->σ) (g:Nat->Option ρ) (n:Nat) (hn:n < fuel) (u:α) (h0:s0=st 0)
 (h:∀ k,k < n->(∀ j,j < k->g j=none)->body (st k)=some (match g k with | none=> .inl (st (k+1)) | some r=> .inr (.inr r)))
 (he:(∀ j,j < n->g j=none)->body (st n)=some (.inr (.inl u))):iter body s0=some (match first n g with | none=> .inl u | some r=> .inr r):=by
 subst h0;have key:∀ m k,k<=n->n - k < m->(∀ j,j < k->g j=none)->ki body m (st k)=some (match first n g with | none=> .inl u | some r=> .inr r):=by
  intro m;induction m with
  | zero=>intro k _ hlt;omega
  | succ m ih=>
   intro k hk hm hj;rw [ki];by_cases hkn:k < n
   ·rw [h k hkn hj]
    cases hg:g k with
    | none=>
     exact ih (k+1) hkn (by omega) (fun j hj'=>by
      rcases zaf j k with e | e
      ·exact hj j e
      ·have:j=k:=by omega
       subst this;exact hg)
    | some r=>simp only [mE hkn hj hg]
   ·have:k=n:=by omega
    subst this;rw [he hj,iy hj]
 exact key fuel 0 (zaJ _) (by omega) (fun j hj=>by omega)
theorem aN {σ ρ:Type} {body:σ->Option (σ⊕ρ)} {s0:σ} (st:Nat->σ) (n:Nat) (hn:n < fuel) (r:ρ) (h0:s0=st 0)
 (h:∀ k,k < n->body (st k)=some (.inl (st (k+1)))) (he:body (st n)=some (.inr r)):iter body s0=some r:=by
 subst h0;have key:∀ m k,k<=n->n - k < m->ki body m (st k)=some r:=by
  intro m;induction m with
  | zero=>intro k _ hlt;omega
  | succ m ih=>
   intro k hk hm;rw [ki];by_cases hkn:k < n
   ·rw [h k hkn];exact ih (k+1) hkn (by omega)
   ·have:k=n:=by omega
    subst this;rw [he]
 exact key fuel 0 (zaJ _) (by omega)
theorem qm {α ρ:Type} (f:α->Option ρ):∀ l:List α,first l.length (fun k=>l[k]?.bind f)=l.findSome? f
 | []=>rfl
 | x::l=>by
  have ih:=qm f l;unfold first at ih ⊢
  rw [zaR,List.range_succ_eq_map,zaO,zaO,List.findSome?_map,<-ih];rfl
theorem dO {α β ρ:Type} {body:Int->Option (Int⊕(β⊕ρ))} {s0:Int} (l:List α) (f:α->Option ρ) (hn:l.length < fuel) (u:β) (h0:s0=0)
 (h:∀ (k:Nat) (hk:k < l.length),body (k:Int)=some (match f l[k] with | none=> .inl ((k+1:Nat):Int) | some r=> .inr (.inr r)))
 (he:body (l.length:Int)=some (.inr (.inl u))):iter body s0=some (match l.findSome? f with | none=> .inl u | some r=> .inr r):=by
 rw [bt (fun k:Nat=>(k:Int)) (fun k=>l[k]?.bind f) l.length hn u (by rw [h0];rfl) (fun k hk _=>by
  have e:l[k]?.bind f=f l[k]:=by rw [za2 hk];rfl
  rw [e];exact h k hk) (fun _=>he),qm]
theorem dQ {α ρ:Type} (p:α->Bool) (r:ρ):∀ l:List α,l.findSome? (fun x=>bif p x then some r else none)=bif l.any p then some r else none
 | []=>rfl
 | x::l=>by
  rw [zaO,dQ p r l,zbZ]
  cases p x<;>rfl
theorem Dl {n:Int} (h0:0<=n) (h1:n < 18446744073709551616):IntKind.u64.wrap n=n:=by
 unfold IntKind.wrap;have e1:(2:Int) ^ IntKind.u64.bits=18446744073709551616:=by decide
 simp only [e1,IntKind.signed,Bool.false_and,za8,if_false];omega
theorem GL {a b:Nat} (ha:a < 18446744073709551616) (hb:b < 18446744073709551616):Sq .u64 (a:Int) (b:Int)=((a||| b:Nat):Int):=by
 have hc:a||| b < 18446744073709551616:=Nat.or_lt_two_pow (n:=64) ha hb
 have e:((BitVec.ofInt IntKind.u64.bits (a:Int))||| (BitVec.ofInt IntKind.u64.bits (b:Int))).toNat=a||| b:=by
  have e64:IntKind.u64.bits=64:=rfl;rw [BitVec.ofInt_natCast,BitVec.ofInt_natCast,BitVec.toNat_or,BitVec.toNat_ofNat,BitVec.toNat_ofNat,e64,zbB ha,zbB hb]
 unfold Sq;rw [e];exact Dl (by omega) (by omega)
theorem LY {a b:Nat} (ha:a < 18446744073709551616) (hb:b < 18446744073709551616):eY .u64 (a:Int) (b:Int)=((a&&& b:Nat):Int):=by
 have hc:a&&& b < 18446744073709551616:=Nat.and_lt_two_pow (n:=64) _ hb;have e:((BitVec.ofInt IntKind.u64.bits (a:Int))&&& (BitVec.ofInt IntKind.u64.bits (b:Int))).toNat=a&&& b:=by
  have e64:IntKind.u64.bits=64:=rfl;rw [BitVec.ofInt_natCast,BitVec.ofInt_natCast,BitVec.toNat_and,BitVec.toNat_ofNat,BitVec.toNat_ofNat,e64,zbB ha,zbB hb]
 unfold eY;rw [e];exact Dl (by omega) (by omega)
end Go.Pl
end
section
namespace cK
open Go Go.Pl
theorem Tw (a b:Bool):(bif a then some true else some b)=some (a||b):=by cases a<;>rfl
theorem KA (a b:Bool):(bif a then some b else some false)=some (a&&b):=by cases a<;>rfl
theorem eL {k:Nat} (h:0 < k) (h2:k < 9223372036854775807):cB .i64 (k:Int) 1=((k - 1:Nat):Int):=by rw [fW (by omega) (by omega)];omega
def stepG (l:List bQ) (k:Nat):Option Int:=
 match l[k]? with
 | none=>none
 | some x=>if ¬(0<=x.ai/\x.ai < 6) then some 2 else if k=0 then none else match l[k - 1]? with
  | none=>none
  | some y=>if x.ai=y.ai then some 7 else if x.ai < y.ai then some 9 else none
def pq (x:bX):Int:=if x.af.length=0 then 13 else if 6 < x.af.length then 5 else
 match first x.af.length (stepG x.af) with | some r=>r | none=>if 0<=x.dz/\x.dz<=1000000 then 0 else 2
theorem Qn (x:bX):Om x=some (pq x):=by
 unfold Om pq;by_cases h1:x.af.length=0
 ·rw [ay (by simpa using h1),if_pos h1]
 rw [au (by simpa using h1),if_neg h1];by_cases h2:6 < x.af.length
 ·rw [ay (by simp;omega),if_pos h2]
 rw [au (by simp;omega),if_neg h2];rw [bt (fun k:Nat=>(k:Int)) (stepG x.af) x.af.length ?hn () ?h0 ?h ?he]
 case hn=>unfold fuel;omega
 case h0=>rfl
 case he=>
  intro _;try dsimp only
  rw [au (bn (by omega))]
 case h=>
  intro k hk _;try dsimp only
  rw [ay (bq (by omega)),aF hk];simp only [za,S2,KA];unfold stepG;rw [za2 hk];dsimp only;by_cases hA:0<=x.af[k].ai/\x.af[k].ai < 6
  ·rw [if_neg (by simpa using hA),au (by simp [hA])];by_cases Ro:k=0
   ·subst Ro;simp;rfl
   ·rw [if_neg Ro,eL (by omega) (by omega),aF (show k - 1 < x.af.length by omega),za2 (show k - 1 < x.af.length by omega)];have so:decide ((k:Int) > 0)=true:=by simp;omega
    simp only [so,cond_true,za];by_cases h3:x.af[k].ai=x.af[k - 1].ai
    ·simp [h3]
    ·by_cases h4:x.af[k].ai < x.af[k - 1].ai
     ·rw [if_neg h3,if_pos h4,au (by simpa using h3),ay (bq h4)]
     ·rw [if_neg h3,if_neg h4,au (by simpa using h3),au (bn h4),an (by omega)]
  ·rw [if_pos (by simpa using hA),ay];simp only [zaW,Bool.and_eq_false_iff,decide_eq_false_iff_not];omega
 cases first x.af.length (stepG x.af) with
 | some r=>rfl
 | none=>
  simp only [za,Sum.elim_inl,S3,KA];by_cases hw:0<=x.dz/\x.dz<=1000000
  ·rw [if_pos hw,au (by simp [hw])]
  ·rw [if_neg hw,ay];simp only [zaW,Bool.and_eq_false_iff,decide_eq_false_iff_not];omega
theorem Qo (x:bX):Ot x=some (pq x):=by
 unfold Ot pq;by_cases h1:x.af.length=0
 ·rw [ay (by simpa using h1),if_pos h1]
 rw [au (by simpa using h1),if_neg h1];by_cases h2:6 < x.af.length
 ·rw [ay (by simp;omega),if_pos h2]
 rw [au (by simp;omega),if_neg h2];rw [bt (fun k:Nat=>((if h:0 < k/\k - 1 < x.af.length then x.af[k - 1].ai else -1),(k:Int))) (stepG x.af) x.af.length ?hn () ?h0 ?h ?he]
 case hn=>unfold fuel;omega
 case h0=>rfl
 case he=>
  intro _;try dsimp only
  rw [au (bn (by omega))]
 case h=>
  intro k hk _;try dsimp only
  rw [ay (bq (by omega)),aF hk];simp only [za,S4,KA];unfold stepG;rw [za2 hk];dsimp only;have hnext:∀ h,(if h:0 < k+1/\k+1 - 1 < x.af.length then x.af[k+1 - 1].ai else -1)=(x.af[k]'h).ai:=by
   intro h;rw [dif_pos ⟨by omega,by omega⟩];rfl
  by_cases hA:0<=x.af[k].ai/\x.af[k].ai < 6
  ·rw [if_neg (by simpa using hA),au (by simp [hA])];by_cases Ro:k=0
   ·subst Ro;rw [if_pos rfl,dif_neg (by omega),au (by simp;omega),au (by simp;omega),hnext hk,an (by omega)]
   ·rw [if_neg Ro,dif_pos ⟨by omega,by omega⟩,za2 (show k - 1 < x.af.length by omega)];dsimp only;by_cases h3:x.af[k].ai=x.af[k - 1].ai
    ·simp [h3]
    ·by_cases h4:x.af[k].ai < x.af[k - 1].ai
     ·rw [if_neg h3,if_pos h4,au (by simpa using h3),ay (bq h4)]
     ·rw [if_neg h3,if_neg h4,au (by simpa using h3),au (bn h4),hnext hk,an (by omega)]
  ·rw [if_pos (by simpa using hA),ay];simp only [zaW,Bool.and_eq_false_iff,decide_eq_false_iff_not];omega
 cases first x.af.length (stepG x.af) with
 | some r=>rfl
 | none=>
  simp only [za,Sum.elim_inl,Tw];by_cases hw:0<=x.dz/\x.dz<=1000000
  ·rw [if_pos hw,au (by simp;omega)]
  ·rw [if_neg hw,ay (by simp;omega)]
structure gG (x:bX):Prop where
 pos:0 < x.af.length
 le:x.af.length<=6
 act:∀ k (h:k < x.af.length),0<=x.af[k].ai/\x.af[k].ai < 6
 inc:∀ k (h:k+1 < x.af.length),x.af[k].ai < x.af[k+1].ai
 wait:0<=x.dz/\x.dz<=1000000
theorem xB {x:bX} (h:pq x=0):gG x:=by
 unfold pq at h;split at h
 ·omega
 split at h
 ·omega
 rename_i h1 h2;split at h
 ·rename_i r hr;exfalso;unfold first at hr
  obtain ⟨k,_,hk⟩:=zab hr;subst h;unfold stepG at hk;split at hk
  ·simp at hk
  ·split at hk
   ·simp at hk
   ·split at hk
    ·simp at hk
    ·split at hk
     ·simp at hk
     ·split at hk
      ·simp at hk
      ·split at hk<;>simp at hk
 ·rename_i hr;rw [bu] at hr;have ha:∀ k (h:k < x.af.length),0<=x.af[k].ai/\x.af[k].ai < 6:=by
   intro k hk;have:=hr k hk;unfold stepG at this;rw [za2 hk] at this;dsimp only at this;refine zbn fun hc=>?_
   rw [if_pos hc] at this;simp at this
  refine ⟨by omega,by omega,ha,fun k hk=>?_,?_⟩
  ·have:=hr (k+1) hk;unfold stepG at this;rw [za2 hk,Nat.add_sub_cancel,za2 (show k < x.af.length by omega)] at this;dsimp only at this;rw [if_neg (by simpa using ha (k+1) hk),if_neg (by omega)] at this;by_cases e:x.af[k+1].ai=x.af[k].ai
   ·rw [if_pos e] at this;simp at this
   ·rw [if_neg e] at this;by_cases e2:x.af[k+1].ai < x.af[k].ai
    ·rw [if_pos e2] at this;simp at this
    ·omega
  ·by_cases hw:0<=x.dz/\x.dz<=1000000
   ·exact hw
   ·rw [if_neg hw] at h;omega
def uc (l:List bQ) (e:Nat->Bool):Nat->Bool:=l.foldl (fun e y=>fun a=>if y.ai=(a:Int) then y.Out else e a) e
theorem Dk {l:List bQ} {k:Nat} (h:k < l.length) (e:Nat->Bool):uc (l.take (k+1)) e=fun a:Nat=>if l[k].ai=(a:Int) then l[k].Out else uc (l.take k) e a:=by
 unfold uc;rw [zaV,za2 h,List.foldl_append];rfl
theorem map_set (n:Nat) (e:Nat->Bool) (a:Int) (v:Bool) (h0:0<=a):((List.range n).map e).set a.toNat v=(List.range n).map (fun b:Nat=>if a=(b:Int) then v else e b):=by
 apply zb0
 ·simp
 ·intro i h1 h2;simp at h1;simp only [zbW,zax,zaX];by_cases hi:a.toNat=i
  ·rw [if_pos hi,if_pos (by omega)]
  ·rw [if_neg hi,if_neg (by omega)]
theorem Qp (x:bX) (n:Nat) (hn:n<=6) (e:Nat->Bool) (hx:x.af.length<=6) (ha:∀ k (h:k < x.af.length),0<=x.af[k].ai/\x.af[k].ai < n):
 Oq x ((List.range n).map e)=some ((List.range n).map (uc x.af e)):=by
 unfold Oq;rw [aO (by simp;omega) (by simp;omega)];simp only [za,zc3];rw [aN (fun k:Nat=>((k:Int),(List.range n).map (uc (x.af.take k) e))) x.af.length ?hn ((List.range n).map (uc x.af e)) ?h0 ?h ?he]
 case hn=>unfold fuel;omega
 case h0=>rfl
 case he=>
  try dsimp only
  rw [au (bn (by omega)),zad (za6 _)]
 case h=>
  intro k hk;try dsimp only
  obtain ⟨h1,h2⟩:=ha k hk;rw [ay (bq (by omega)),aF hk];simp only [za];obtain ⟨h3,h4⟩:=oo (l:=(List.range n).map (uc (x.af.take k) e)) h1 (by simpa using h2);rw [h4];simp only [za];rw [map_set _ _ _ _ h1,an (by omega),Dk hk]
 rfl
def c7 (e:Nat->Bool):fh 6 Bool:=⟨(List.range 6).map e,by simp⟩
theorem zX (e:Nat->Bool) (a:Int) (v:Bool) (h:0<=a):(c7 e).put a.toNat v=c7 (fun b:Nat=>if a=(b:Int) then v else e b):=Subtype.ext (map_set 6 e a v h)
theorem tC (e:Nat->Bool) {a:Int} (h:0<=a) (h2:a < 6):oT (c7 e) a=some (e a.toNat):=by
 unfold oT idx;rw [if_pos h];have:a.toNat < 6:=by omega
 simp [c7,this]
theorem P9 (x:bX) (e:Nat->Bool) (hx:x.af.length<=6) (ha:∀ k (h:k < x.af.length),0<=x.af[k].ai/\x.af[k].ai < 6):
 Ov (c7 e) x=some (c7 (uc x.af e)):=by
 unfold Ov;rw [aN (fun k:Nat=>((k:Int),c7 (uc (x.af.take k) e),fh.rep 6 false)) x.af.length ?hn (c7 (uc x.af e),fh.rep 6 false) ?h0 ?h ?he]
 case hn=>unfold fuel;omega
 case h0=>rfl
 case he=>
  try dsimp only
  rw [au (bn (by omega)),zad (za6 _)]
 case h=>
  intro k hk;try dsimp only
  obtain ⟨h1,h2⟩:=ha k hk;rw [ay (bq (by omega)),aF hk];simp only [za];rw [tC _ h1 h2];simp only [za];rw [zX _ _ _ h1,an (by omega),Dk hk]
 rfl
def zw (x:bX) (e:Nat->Bool):Bool:=x.af.any fun y=>e y.ai.toNat==y.Out
theorem Qq (x:bX) (n:Nat) (hn:n<=6) (e:Nat->Bool) (hx:x.af.length<=6) (ha:∀ k (h:k < x.af.length),0<=x.af[k].ai/\x.af[k].ai < n):
 Oo x ((List.range n).map e)=some (!zw x e):=by
 unfold Oo;rw [dO x.af (fun y=>bif e y.ai.toNat==y.Out then some false else none) ?hn () ?h0 ?h ?he]
 case hn=>unfold fuel;omega
 case h0=>rfl
 case he=>
  try dsimp only
  rw [au (bn (by omega))]
 case h=>
  intro k hk;try dsimp only
  obtain ⟨h1,h2⟩:=ha k hk;rw [ay (bq (by omega)),aF hk];simp only [za];obtain ⟨h3,h4⟩:=oo (l:=(List.range n).map e) h1 (by simpa using h2);rw [au (by simp;omega),h4];simp only [za,zax,zaX];rw [an (by omega)]
  cases e x.af[k].ai.toNat==x.af[k].Out<;>rfl
 rw [dQ];unfold zw
 cases x.af.any fun y=>e y.ai.toNat==y.Out<;>rfl
def N0 (s:aa) (x:bX):Bool:=x.af.any fun y=>decide (y.ai≥s.U)
theorem R2 {s:aa} {x:bX} (h:N0 s x=false):∀ k (h:k < x.af.length),x.af[k].ai < s.U:=by
 intro k hk;unfold N0 at h;rw [zbi] at h;have:=h x.af[k] (zaG hk);simp at this;omega
def Gb (s:aa) (x:bX) (e:Nat->Bool):Int:=if pq x≠0 then pq x else if N0 s x=true then 6 else if zw x e=true then 14 else 0
theorem yb {α β ρ γ:Type} {body:Int×γ->Option ((Int×γ)⊕(β⊕ρ))} {w:γ} {s0:Int×γ} (l:List α) (f:α->Option ρ) (hn:l.length < fuel) (u:β) (h0:s0=(0,w))
 (h:∀ (k:Nat) (hk:k < l.length),body ((k:Int),w)=some (match f l[k] with | none=> .inl (((k+1:Nat):Int),w) | some r=> .inr (.inr r)))
 (he:body ((l.length:Int),w)=some (.inr (.inl u))):iter body s0=some (match l.findSome? f with | none=> .inl u | some r=> .inr r):=by
 rw [bt (fun k:Nat=>((k:Int),w)) (fun k=>l[k]?.bind f) l.length hn u (by rw [h0];rfl) (fun k hk _=>by
  have e:l[k]?.bind f=f l[k]:=by rw [za2 hk];rfl
  rw [e];exact h k hk) (fun _=>he),qm]
 try (cases l.findSome? f<;>rfl)
theorem P8 (s:aa) (x:bX) (e:Nat->Bool):Ou s x (c7 e)=some (Gb s x e):=by
 unfold Ou Gb;rw [Qo];simp only [za];by_cases h0:pq x=0
 ·have ho:=xB h0;rw [au (by simpa using h0),if_neg (by simpa using h0)];have hlen:=ho.le;rw [yb (w:=c7 e) x.af (fun y=>bif decide (y.ai≥s.U) then some 6 else none) ?hn (c7 e) ?h0 ?h ?he]
  case hn=>unfold fuel;omega
  case h0=>rfl
  case he=>
   try dsimp only
   rw [au (bn (by omega))]
  case h=>
   intro k hk;try dsimp only
   rw [ay (bq (by omega)),aF hk];simp only [za];rw [an (by omega)]
   cases decide (x.af[k].ai≥s.U)<;>rfl
  rw [dQ];unfold N0
  cases hf:x.af.any fun y=>decide (y.ai≥s.U) with
  | true=>rfl
  | false=>
   simp only [cond_false,za,Sum.elim_inl,za8,if_false];rw [yb (w:=c7 e) x.af (fun y=>bif e y.ai.toNat==y.Out then some 14 else none) ?hn (c7 e) ?h0 ?h ?he]
   case hn=>unfold fuel;omega
   case h0=>rfl
   case he=>
    try dsimp only
    rw [au (bn (by omega))]
   case h=>
    intro k hk;try dsimp only
    obtain ⟨h1,h2⟩:=ho.act k hk;rw [ay (bq (by omega)),aF hk];simp only [za];rw [tC _ h1 h2,an (by omega)];simp only [za]
    cases e x.af[k].ai.toNat==x.af[k].Out<;>rfl
   rw [dQ];unfold zw
   cases x.af.any fun y=>e y.ai.toNat==y.Out<;>rfl
 ·rw [ay (by simpa using h0),if_pos h0]
def ends (s:aa) (k:Nat):Nat->Bool:=(s.Steps.take k).foldl (fun e x=>uc x.af e) (fun _=>false)
theorem tD {s:aa} {k:Nat} (h:k < s.Steps.length):ends s (k+1)=uc s.Steps[k].af (ends s k):=by
 unfold ends;rw [zaV,za2 h,List.foldl_append];rfl
def NT (l:List bQ) (e:Nat->Bool):Nat->Bool:=l.foldl (fun e y=>fun a=>if y.ai=(a:Int) then true else e a) e
def fP (s:aa) (k:Nat):Nat->Bool:=(s.Steps.take k).foldl (fun e x=>NT x.af e) (fun _=>false)
theorem xY {s:aa} {k:Nat} (h:k < s.Steps.length):fP s (k+1)=NT s.Steps[k].af (fP s k):=by
 unfold fP;rw [zaV,za2 h,List.foldl_append];rfl
def oR (s:aa) (k:Nat):Option Int:=match s.Steps[k]? with
 | none=>none
 | some x=>if Gb s x (ends s k)≠0 then some (Gb s x (ends s k)) else none
theorem oD {s:aa} {k:Nat} {r:Int} (hk:k < s.Steps.length) (h:Gb s s.Steps[k] (ends s k)=r) (hr:r≠0):oR s k=some r:=by
 unfold oR;rw [za2 hk];dsimp only;rw [h,if_pos hr]
theorem zW {s:aa} {k:Nat} (hk:k < s.Steps.length) (h:Gb s s.Steps[k] (ends s k)=0):oR s k=none:=by
 unfold oR;rw [za2 hk];dsimp only;rw [h,if_neg (by simp)]
structure sH (s:aa) (x:bX):Prop where
 ok:gG x
 N0:∀ k (h:k < x.af.length),x.af[k].ai < s.U
theorem sY {s:aa} {k:Nat} (hk:k < s.Steps.length) (h:oR s k=none):sH s s.Steps[k]/\zw s.Steps[k] (ends s k)=false:=by
 unfold oR at h;rw [za2 hk] at h;dsimp only at h;by_cases h0:Gb s s.Steps[k] (ends s k)≠0
 ·rw [if_pos h0] at h;simp at h
 ·have h1:Gb s s.Steps[k] (ends s k)=0:=by simpa using h0
  unfold Gb at h1;split at h1
  ·rename_i h2;exact (h2 h1).elim
  ·split at h1
   ·omega
   ·split at h1
    ·omega
    ·rename_i a b c;exact ⟨⟨xB (by simpa using a),R2 (by simpa using b)⟩,by simpa using c⟩
def way (x:bX) (a:Int):Int:=match x.af.findSome? (fun y=>bif y.ai==a then some (if y.Out then (1:Int) else -1) else none) with | some r=>r | none=>0
def j7 (x:bX) (a:Int):Bool:=x.af.any fun y=>y.ai==a
theorem Be (x:bX) (a:Int) (hx:x.af.length<=9223372036854775807):Ih x a=some (way x a):=by
 unfold Ih way;rw [dO x.af (fun y=>bif y.ai==a then some (if y.Out then (1:Int) else -1) else none) ?hn () ?h0 ?h ?he]
 case hn=>unfold fuel;omega
 case h0=>rfl
 case he=>
  try dsimp only
  rw [au (bn (by omega))]
 case h=>
  intro k hk;try dsimp only
  rw [ay (bq (by omega)),aF hk];simp only [za];rw [an (by omega)]
  cases x.af[k].ai==a<;>cases x.af[k].Out<;>rfl
 cases x.af.findSome? (fun y=>bif y.ai==a then some (if y.Out then (1:Int) else -1) else none)<;>rfl
theorem EW (x:bX) (a:Int):(way x a !=0)=j7 x a:=by
 unfold way j7;induction x.af with
 | nil=>rfl
 | cons y l ih=>
  rw [zaO,zbZ]
  cases h:y.ai==a with
  | true=>cases y.Out<;>rfl
  | false=>simpa using ih
theorem U9 (l:List bQ) (e:Nat->Bool) (a:Nat):NT l e a=(e a||l.any fun y=>y.ai==(a:Int)):=by
 induction l generalizing e with
 | nil=>simp [NT]
 | cons y l ih=>
  have:NT (y::l) e=NT l (fun a:Nat=>if y.ai=(a:Int) then true else e a):=rfl;rw [this,ih,zbZ];by_cases h:y.ai=(a:Int)
  ·simp [h]
  ·have hb:(y.ai==(a:Int))=false:=by simpa using h
   rw [hb,if_neg h,zbQ]
theorem CG (s:aa) (a:Nat):∀ k,k<=s.Steps.length->fP s k a=(s.Steps.take k).any fun x=>j7 x a:=by
 intro k;induction k with
 | zero=>intro _;simp [fP]
 | succ k ih=>
  intro hk;rw [xY (by omega),U9,ih (by omega),zaV,za2 (by omega),List.any_append];simp [j7]
theorem UQ (s:aa) (a:Int) (hs:s.Steps.length<=9223372036854775807) (hx:∀ x∈s.Steps,x.af.length<=9223372036854775807):m92 s a=some (s.Steps.any fun x=>j7 x a):=by
 unfold m92;rw [dO s.Steps (fun x=>bif j7 x a then some true else none) ?hn () ?h0 ?h ?he]
 case hn=>unfold fuel;omega
 case h0=>rfl
 case he=>
  try dsimp only
  rw [au (bn (by omega))]
 case h=>
  intro k hk;try dsimp only
  rw [ay (bq (by omega)),aF hk];simp only [za];rw [Be _ _ (hx _ (zaG hk)),an (by omega)];simp only [za,EW]
  cases j7 s.Steps[k] a<;>rfl
 rw [dQ]
 cases s.Steps.any fun x=>j7 x a<;>rfl
theorem MO {s:aa} {a:Nat} (ha:s.U<=a):∀ k,k<=s.Steps.length->(∀ j,j < k->oR s j=none)->ends s k a=false:=by
 intro k;induction k with
 | zero=>intro _ _;simp [ends]
 | succ k ih=>
  intro hk hj;have h1:=ih (by omega) (fun j hj'=>hj j (by omega));obtain ⟨h2,_⟩:=sY (show k < s.Steps.length by omega) (hj k (by omega));rw [tD (by omega)];have key:∀ l:List bQ,(∀ y∈l,y.ai < s.U)->∀ e:Nat->Bool,uc l e a=e a:=by
   intro l;induction l with
   | nil=>intro _ e;rfl
   | cons y l ihl=>
    intro hl e;have:uc (y::l) e=uc l (fun a:Nat=>if y.ai=(a:Int) then y.Out else e a):=rfl;rw [this,ihl (fun z hz=>hl z (by simp [hz]))];have:=hl y (by simp);rw [if_neg (by omega)]
  rw [key _ ?_]
  ·exact h1
  ·intro y hy;obtain ⟨i,hi,rfl⟩:=zaA hy;exact h2.N0 i hi
def uZ (s:aa):Int:=
 if s.U < 1\/6 < s.U then 2 else if s.Steps.length=0 then 13 else if 64 < s.Steps.length then 5 else
 match first s.Steps.length (oR s) with
 | some r=>r
 | none=>if (List.range s.U.toNat).any (ends s s.Steps.length)=true then 9 else if (List.range s.U.toNat).all (fP s s.Steps.length)=true then 0 else 13
def Tx (s:aa):Int:=match first s.Steps.length (oR s) with
 | some r=>r
 | none=>if (List.range s.U.toNat).any (ends s s.Steps.length)=true then 9 else 0
theorem UP (s:aa) (h1:1<=s.U) (h6:s.U<=6) (hs:s.Steps.length<=64):m91 s=some (Tx s):=by
 unfold m91 Tx;have hmk:sj 1 s.U false=some (List.replicate s.U.toNat false):=by
  unfold sj;rw [if_pos ⟨by omega,by omega,by omega⟩]
 rw [hmk];simp only [za];have hA:s.U.toNat<=6:=by omega
 rw [bt (fun k:Nat=>((List.range s.U.toNat).map (ends s k),(k:Int))) (oR s) s.Steps.length ?hn ((List.range s.U.toNat).map (ends s s.Steps.length)) ?h0 ?h ?he]
 case hn=>unfold fuel;omega
 case h0=>
  have:(List.range s.U.toNat).map (ends s 0)=List.replicate s.U.toNat false:=by
   apply zb0
   ·simp
   ·intro i h1 h2;simp [ends]
  rw [this];rfl
 case he=>
  intro _;try dsimp only
  rw [au (bn (by omega))]
 case h=>
  intro k hk hj;try dsimp only
  rw [ay (bq (by omega)),aF hk];simp only [za];rw [Qn];simp only [za];by_cases e0:pq s.Steps[k]=0
  ·have ho:=xB e0;have hle:=ho.le;rw [au (by simpa using e0)];rw [dO s.Steps[k].af (fun y=>bif decide (y.ai≥s.U) then some (.inr (.inr 6)) else none) ?hn () ?h0 ?h ?he]
   case hn=>unfold fuel;omega
   case h0=>rfl
   case he=>
    try dsimp only
    rw [au (bn (by omega))]
   case h=>
    intro i hi;try dsimp only
    rw [ay (bq (by omega)),aF hi];simp only [za];rw [an (by omega)]
    cases decide (s.Steps[k].af[i].ai≥s.U)<;>rfl
   rw [dQ];have WX:(s.Steps[k].af.any fun y=>decide (y.ai≥s.U))=N0 s s.Steps[k]:=rfl;rw [WX]
   cases hf:N0 s s.Steps[k] with
   | true=>
    rw [oD hk (r:=6) (by unfold Gb;rw [if_neg (by simpa using e0),if_pos hf]) (by decide)];rfl
   | false=>
    have Tz:=R2 hf;have ha:∀ i (h:i < s.Steps[k].af.length),0<=s.Steps[k].af[i].ai/\s.Steps[k].af[i].ai < (s.U.toNat:Int):=fun i hi=>⟨(ho.act i hi).1,by have:=Tz i hi;omega⟩
    simp only [cond_false,za,Sum.elim_inl,za8,if_false];rw [Qq _ _ hA _ ho.le ha];simp only [za,Bool.not_not]
    cases hc:zw s.Steps[k] (ends s k) with
    | true=>
     rw [oD hk (r:=14) (by unfold Gb;rw [if_neg (by simpa using e0),if_neg (by simp [hf]),if_pos hc]) (by decide)];rfl
    | false=>
     rw [zW hk (by unfold Gb;rw [if_neg (by simpa using e0),if_neg (by simp [hf]),if_neg (by simp [hc])])];simp only [cond_false];rw [Qp _ _ hA _ ho.le ha,an (by omega),tD hk];rfl
  ·rw [ay (by simpa using e0),oD hk (by unfold Gb;rw [if_pos e0]) e0]
 cases aeT:first s.Steps.length (oR s) with
 | some r=>rfl
 | none=>
  simp only [za,Sum.elim_inl];rw [dO (List.range s.U.toNat) (fun a=>bif ends s s.Steps.length a then some 9 else none) ?hn () ?h0 ?h ?he]
  case hn=>unfold fuel;simp;omega
  case h0=>rfl
  case he=>
   try dsimp only
   rw [au (bn (by simp;omega))]
  case h=>
   intro k hk;have hk':k < s.U.toNat:=by simpa using hk
   try dsimp only
   rw [ay (bq (by omega)),aF (by simpa using hk)];simp only [za,zax,zaX];rw [an (by omega)]
   cases ends s s.Steps.length k<;>rfl
  rw [dQ]
  cases (List.range s.U.toNat).any (ends s s.Steps.length)<;>rfl
end cK
end
section
namespace cK
open Go Go.Pl
def Small (s:aa):Prop:=s.Steps.length<=9223372036854775807/\∀ x∈s.Steps,x.af.length<=9223372036854775807
theorem Lh (s:aa) (hs:Small s):V0 s=some (uZ s):=by
 unfold V0 uZ;rw [Tw];simp only [za];by_cases h1:s.U < 1\/6 < s.U
 ·rw [ay (by simp only [zat,decide_eq_true_eq];omega),if_pos h1]
 rw [au (by simp only [zbT,decide_eq_false_iff_not];omega),if_neg h1];by_cases h2:s.Steps.length=0
 ·rw [ay (by simpa using h2),if_pos h2]
 rw [au (by simpa using h2),if_neg h2];by_cases h3:64 < s.Steps.length
 ·rw [ay (by simp;omega),if_pos h3]
 rw [au (by simp;omega),if_neg h3,UP s (by omega) (by omega) (by omega)];simp only [za];unfold Tx
 cases hf:first s.Steps.length (oR s) with
 | some r=>
  have hr:r≠0:=by
   unfold first at hf
   obtain ⟨k,_,hk⟩:=zab hf;unfold oR at hk;split at hk
   ·simp at hk
   ·split at hk
    ·rename_i h;injection hk with hk;rw [<-hk];exact h
    ·simp at hk
  simp only;rw [ay (by simpa using hr)]
 | none=>
  simp only;by_cases h9:(List.range s.U.toNat).any (ends s s.Steps.length)=true
  ·rw [if_pos h9,if_pos h9];rfl
  rw [if_neg h9,if_neg h9,au (by rfl)];rw [dO (List.range s.U.toNat) (fun a=>bif !fP s s.Steps.length a then some 13 else none) ?hn () ?h0 ?h ?he]
  case hn=>unfold fuel;simp;omega
  case h0=>rfl
  case he=>
   try dsimp only
   rw [au (bn (by simp;omega))]
  case h=>
   intro k hk;have hk':k < s.U.toNat:=by simpa using hk
   try dsimp only
   rw [ay (bq (by omega)),UQ s _ hs.1 hs.2];simp only [za,zaX];rw [an (by omega),CG s k _ (za6 _),zad (za6 _)]
   cases s.Steps.any fun x=>j7 x (k:Int)<;>rfl
  rw [dQ];have:(List.range s.U.toNat).any (fun a=> !fP s s.Steps.length a)= !(List.range s.U.toNat).all (fP s s.Steps.length):=by
   rw [List.not_all_eq_any_not]
  rw [this]
  cases (List.range s.U.toNat).all (fP s s.Steps.length)<;>rfl
theorem MN {l:List bQ} {k:Nat} (h:k < l.length) (e:Nat->Bool):NT (l.take (k+1)) e=fun a:Nat=>if l[k].ai=(a:Int) then true else NT (l.take k) e a:=by
 unfold NT;rw [zaV,za2 h,List.foldl_append];rfl
theorem P7 (l:List Bool) (hl:l.length<=6):Ow l false=some (l.any fun b=>b==false):=by
 unfold Ow S5;rw [bt (fun k:Nat=>(k:Int)) (fun k=>match l[k]? with | some b=>bif b==false then some (k:Int) else none | none=>none) l.length ?hn () ?h0 ?h ?he]
 case hn=>unfold fuel;omega
 case h0=>rfl
 case he=>
  intro _;try dsimp only
  rw [au (bn (by omega))]
 case h=>
  intro k hk _;try dsimp only
  rw [ay (bq (by omega)),aF hk,za2 hk];simp only [za];rw [an (by omega)]
  cases l[k]<;>rfl
 cases hf:first l.length (fun k=>match l[k]? with | some b=>bif b==false then some (k:Int) else none | none=>none) with
 | none=>
  rw [bu] at hf;have:(l.any fun b=>b==false)=false:=by
   rw [zbi];intro b hb;obtain ⟨k,hk,rfl⟩:=zaA hb;have:=hf k hk;rw [za2 hk] at this;dsimp only at this;intro hc;rw [hc] at this;simp at this
  rw [this];rfl
 | some r=>
  unfold first at hf
  obtain ⟨k,hk,hr⟩:=zab hf;have hk':k < l.length:=by simpa using hk
  rw [za2 hk'] at hr;dsimp only at hr
  cases hb:l[k]==false with
  | false=>rw [hb] at hr;simp at hr
  | true=>
   rw [hb] at hr;simp only [cond_true,za1] at hr;have:(l.any fun b=>b==false)=true:=by
    rw [zbb];exact ⟨l[k],zaG hk',hb⟩
   rw [this];subst hr;simp only [za,Sum.elim_inr];simp
theorem E4 (s:aa):WB s=some (uZ s):=by
 unfold WB uZ;rw [Tw];simp only [za];by_cases h1:s.U < 1\/6 < s.U
 ·rw [ay (by simp only [zat,decide_eq_true_eq];omega),if_pos h1]
 rw [au (by simp only [zbT,decide_eq_false_iff_not];omega),if_neg h1];by_cases h2:s.Steps.length=0
 ·rw [ay (by simpa using h2),if_pos h2]
 rw [au (by simpa using h2),if_neg h2];by_cases h3:64 < s.Steps.length
 ·rw [ay (by simp;omega),if_pos h3]
 rw [au (by simp;omega),if_neg h3];rw [bt (fun k:Nat=>((k:Int),c7 (ends s k),c7 (fP s k))) (oR s) s.Steps.length ?hn (c7 (ends s s.Steps.length),c7 (fP s s.Steps.length)) ?h0 ?h ?he]
 case hn=>unfold fuel;omega
 case h0=>rfl
 case he=>
  intro _;try dsimp only
  rw [au (bn (by omega))]
 case h=>
  intro k hk hj;try dsimp only
  rw [ay (bq (by omega)),aF hk];simp only [za];rw [P8];simp only [za];by_cases e0:Gb s s.Steps[k] (ends s k)=0
  ·have hg:=zW hk e0;obtain ⟨h4,_⟩:=sY hk hg;have hle:=h4.ok.le;rw [au (by simpa using e0),hg,P9 _ _ h4.ok.le h4.ok.act];simp only [za];rw [aN (fun i:Nat=>((i:Int),c7 (uc s.Steps[k].af (ends s k)),c7 (NT (s.Steps[k].af.take i) (fP s k)))) s.Steps[k].af.length ?hn (c7 (uc s.Steps[k].af (ends s k)),c7 (fP s (k+1))) ?h0 ?h ?he]
   case hn=>unfold fuel;omega
   case h0=>rfl
   case he=>
    try dsimp only
    rw [au (bn (by omega)),zad (za6 _),xY hk]
   case h=>
    intro i hi;try dsimp only
    obtain ⟨h5,h6⟩:=h4.ok.act i hi;rw [ay (bq (by omega)),aF hi];simp only [za];rw [tC _ h5 h6];simp only [za];rw [zX _ _ _ h5,an (by omega),MN hi]
   simp only [za];rw [an (by omega),tD hk]
  ·rw [ay (by simpa using e0),oD hk rfl e0]
 cases hf:first s.Steps.length (oR s) with
 | some r=>rfl
 | none=>
  simp only [za,Sum.elim_inl];have Tz:∀ a:Nat,s.U<=a->ends s s.Steps.length a=false:=fun a ha=>MO ha _ (za6 _) (fun j hj=>(bu.1 hf) j hj)
  have he:((c7 (ends s s.Steps.length)).1==(fh.rep 6 false).1)= !(List.range s.U.toNat).any (ends s s.Steps.length):=by
   have hz:((c7 (ends s s.Steps.length)).1=(fh.rep 6 false).1)↔(List.range s.U.toNat).any (ends s s.Steps.length)=false:=by
    rw [zbi];constructor
    ·intro h a ha;have Sy:a < s.U.toNat:=zac.1 ha;have:=congrArg (fun l=>l[a]?) h;have h6:a < 6:=by omega
     have h7:(c7 (ends s s.Steps.length)).1[a]?=some (ends s s.Steps.length a):=by
      simp only [c7,zay,List.getElem?_range h6,zaL]
     have h8:(fh.rep 6 false).1[a]?=some false:=by
      simp only [fh.rep,List.getElem?_replicate,if_pos h6]
     simp only [h7,h8,za1] at this;simp [this]
    ·intro h;apply zb0
     ·simp [c7,fh.rep]
     ·intro a h1 h2;simp only [c7,fh.rep,zax,zaX,List.getElem_replicate];by_cases ha:a < s.U.toNat
      ·have:=h a (zac.2 ha);simpa using this
      ·exact Tz a (by omega)
   cases hb:(List.range s.U.toNat).any (ends s s.Steps.length) with
   | false=>rw [hz.2 hb];simp
   | true=>
    rw [zb2,beq_eq_false_iff_ne];intro hc;rw [hz.1 hc] at hb;simp at hb
  rw [show ([false,false,false,false,false,false]:List Bool)=(fh.rep 6 false).1 from rfl,he];by_cases h9:(List.range s.U.toNat).any (ends s s.Steps.length)=true
  ·rw [if_pos h9,h9];rfl
  ·rw [if_neg h9];simp only [Bool.not_eq_true] at h9;rw [h9];have vG:oS (c7 (fP s s.Steps.length)).1 none (some s.U)=some ((List.range s.U.toNat).map (fP s s.Steps.length)):=by
    unfold oS;rw [if_pos ⟨by simp,by simp;omega,by simp [c7];omega⟩];congr 1;apply zb0
    ·simp [c7];omega
    ·intro i h1 h2;simp [c7]
   simp only [zbV,bne_self_eq_false,cond_false];rw [vG];have hl:List.take (s.U.toNat - 0) (List.drop 0 (c7 (fP s s.Steps.length)).1)=(List.range s.U.toNat).map (fP s s.Steps.length):=by
    apply zb0
    ·simp [c7];omega
    ·intro i h1 h2;simp [c7]
   simp only [za];rw [if_pos (by omega),hl,P7 _ (by simp;omega)];simp only [za,List.any_map];have:(List.range s.U.toNat).any ((fun b=>b==false) ∘ fP s s.Steps.length)= !(List.range s.U.toNat).all (fP s s.Steps.length):=by
    rw [List.not_all_eq_any_not];congr 1;funext a
    simp
   rw [this]
   cases (List.range s.U.toNat).all (fP s s.Steps.length)<;>rfl
end cK
end
section
namespace cK
open Go Go.Pl
def cnt (s:aa) (k:Nat):Nat:=((s.Steps.take k).filter (fun x=>x.dz !=0)).length
def pM (s:aa) (n:Int) (k:Nat):Int:=match s.Steps[k]? with
 | some x=>if x.dz=0 then -1 else n+(cnt s k:Int)
 | none=>0
def dW (s:aa) (n:Int) (k:Nat):List Int:=(List.range k).map (pM s n)
theorem jQ {s:aa} {k:Nat} (h:k < s.Steps.length):cnt s (k+1)=if s.Steps[k].dz=0 then cnt s k else cnt s k+1:=by
 unfold cnt;rw [zaV,za2 h,List.filter_append];by_cases hw:s.Steps[k].dz=0
 ·rw [if_pos hw];simp [hw]
 ·rw [if_neg hw];simp [hw]
theorem wH (s:aa) (k:Nat):cnt s k<=s.Steps.length:=by
 unfold cnt;exact zaK (List.length_filter_le _ _) (by rw [zbu];omega)
theorem rT {s:aa} {n:Int} {k:Nat}:dW s n (k+1)=dW s n k++[pM s n k]:=by
 unfold dW;rw [zb7,zal];rfl
theorem QJ (s:aa) (n:Int) (hs:s.Steps.length<=64) (h0:0<=n) (h1:n < 1000000):OC s n=some ⟨s,dW s n s.Steps.length⟩:=by
 unfold OC;rw [aN (fun k:Nat=>(n+(cnt s k:Int),(k:Int),(0:Int),([]:List bX),([]:List Int),s.U,s.Steps,dW s n k)) s.Steps.length ?hn ((0:Int),([]:List bX),([]:List Int),s.U,s.Steps,dW s n s.Steps.length) ?h0 ?h ?he]
 case hn=>unfold fuel;omega
 case h0=>simp [cnt,dW]
 case he=>
  try dsimp only
  rw [au (bn (by omega))]
 case h=>
  intro k hk;try dsimp only
  have hc:=wH s k;have hlen:(dW s n k).length=k:=by simp [dW]
  rw [ay (bq (by omega)),aF hk];simp only [za];rw [aO (by simp [hlen];omega) (by simp [hlen];omega),aO (by simp [hlen];omega) (by simp [hlen];omega)];have ht:pM s n k=if s.Steps[k].dz=0 then -1 else n+(cnt s k:Int):=by
   unfold pM;rw [za2 hk]
  by_cases hw:s.Steps[k].dz=0
  ·rw [ay (by simpa using hw)];simp only [za];rw [rT,ht,if_pos hw,jQ hk,if_pos hw,an (by omega)]
  ·rw [au (by simpa using hw)];simp only [za];rw [rT,ht,if_neg hw,jQ hk,if_neg hw,an (by omega),bh (by omega) (by omega)];rw [show n+(cnt s k:Int)+1=n+((cnt s k+1:Nat):Int) by omega]
 simp only [za]
end cK
end
section
namespace cK
open Go Go.Pl
def mods (f:Int) (k:Nat):List Int:=(List.range k).map fun j:Nat=>f+(j:Int)
theorem z5 {f:Int} {k:Nat}:mods f (k+1)=mods f k++[f+(k:Int)]:=by
 unfold mods;rw [zb7,zal];rfl
def fst (s:aa):Int:=2*s.U+1
end cK
end
section
namespace cK
open Go Go.Pl
theorem fst_eq {s:aa} (h0:1<=s.U) (h1:s.U<=6):aI .i64 (cE .i64 2 s.U) 1=fst s:=by
 have:cE .i64 2 s.U=2*s.U:=by unfold cE;exact wrap_i64 (by omega) (by omega)
 rw [this,bh (by omega) (by omega)];rfl
theorem pV {s:aa} (h0:1<=s.U) (h1:s.U<=6):3<=fst s/\fst s<=13:=by unfold fst;omega
theorem Qd {s:aa} {n:Int} {k:Nat} (hk:k < s.Steps.length):pM s n k=if s.Steps[k].dz=0 then -1 else n+(cnt s k:Int):=by
 unfold pM;rw [za2 hk]
theorem fB {s:aa} {n:Int} {k:Nat} (hk:k < s.Steps.length) (hn:0<=n):decide (pM s n k≥0)=(s.Steps[k].dz !=0):=by
 have e:=Qd (n:=n) hk;by_cases hw:s.Steps[k].dz=0
 ·rw [if_pos hw] at e;have:decide (pM s n k≥0)=false:=by simp only [decide_eq_false_iff_not];omega
  rw [this];simp [hw]
 ·rw [if_neg hw] at e;have:decide (pM s n k≥0)=true:=by simp only [decide_eq_true_eq];omega
  rw [this];simp [hw]
theorem U1 (s:aa) (n:Int) (hn:0<=n) (hs:s.Steps.length<=64):V2 ⟨s,dW s n s.Steps.length⟩=some (cnt s s.Steps.length:Int):=by
 unfold V2;have hlen:(dW s n s.Steps.length).length=s.Steps.length:=by simp [dW]
 rw [aN (fun k:Nat=>((cnt s k:Int),(k:Int))) s.Steps.length ?hn (cnt s s.Steps.length:Int) ?h0 ?h ?he]
 case hn=>unfold fuel;omega
 case h0=>simp [cnt]
 case he=>
  try dsimp only
  rw [au (bn (by omega))]
 case h=>
  intro k hk;try dsimp only
  have hc:=wH s k;have hg:(dW s n s.Steps.length)[k]'(by omega)=pM s n k:=by simp [dW]
  rw [ay (bq (by omega)),aF (show k < (dW s n s.Steps.length).length by omega),hg];simp only [za];rw [fB hk hn];by_cases hw:s.Steps[k].dz=0
  ·rw [au (by simp [hw]),jQ hk,if_pos hw,an (by omega)];rfl
  ·rw [ay (by simpa using hw),jQ hk,if_neg hw,an (by omega),an (by omega)];rfl
 rfl
end cK
end
section
namespace cK
open Go Go.Pl
def cw (n:Int):aj:=⟨1,n,[]⟩
def qw (x:bQ):aj:=cw (2*x.ai+if x.Out then 1 else 0)
def u9 (l:List bQ) (k:Nat):List aj:=(l.take k).map qw
theorem lG {l:List bQ} {k:Nat} (h:k < l.length):u9 l (k+1)=u9 l k++[qw l[k]]:=by
 unfold u9;rw [zaV,za2 h,zal];rfl
theorem ov (l:List bQ):u9 l l.length=l.map qw:=by unfold u9;rw [zbC]
theorem bS (n:Int):m0 n=some (cw n):=rfl
theorem jw (n:Int):vL n=some (cw n):=rfl
theorem Hp (x:bX) (h:gG x):JK x=some (x.af.map qw):=by
 have hle:=h.le;unfold JK;rw [aN (fun k:Nat=>((k:Int),u9 x.af k)) x.af.length ?hn (x.af.map qw) ?h0 ?h ?he]
 case hn=>unfold fuel;omega
 case h0=>simp [u9]
 case he=>
  try dsimp only
  rw [au (bn (by omega)),ov]
 case h=>
  intro k hk;try dsimp only
  obtain ⟨h1,h2⟩:=h.act k hk;have hl:(u9 x.af k).length=k:=by simp [u9];omega
  have e0:cE .i64 2 x.af[k].ai=2*x.af[k].ai:=by unfold cE;exact wrap_i64 (by omega) (by omega)
  rw [ay (bq (by omega)),aF hk];simp only [za,jw,e0];rw [lG hk,an (by omega)]
  cases ho:x.af[k].Out with
  | true=>
   simp only [cond_true,za];rw [bh (by omega) (by omega),aO (by simp [hl];omega) (by simp [hl];omega)];simp [qw,ho,cw]
  | false=>
   simp only [cond_false,za];rw [aO (by simp [hl];omega) (by simp [hl];omega)];simp [qw,ho,cw]
 rfl
end cK
end
section
namespace cK
open Go Go.Pl
def dA (s:aa) (n:Int) (k:Nat):List aj:=match s.Steps[k]? with
 | some x=>if x.dz=0 then x.af.map qw else [cw (pM s n k)]
 | none=>[]
theorem ot {s:aa} {n:Int} {k:Nat} (hk:k < s.Steps.length):idx (dW s n s.Steps.length) (k:Int)=some (pM s n k):=by
 have hlen:(dW s n s.Steps.length).length=s.Steps.length:=by simp [dW]
 rw [aF (by omega)];simp [dW]
theorem QL (s:aa) (n:Int) (hn:0<=n) {k:Nat} (hk:k < s.Steps.length) (h:gG s.Steps[k]):yO ⟨s,dW s n s.Steps.length⟩ k=some (dA s n k):=by
 unfold yO dA;rw [za2 hk,ot hk];simp only [za,jw];rw [fB hk hn];by_cases hw:s.Steps[k].dz=0
 ·rw [au (by simp [hw]),if_pos hw,aF hk];simp only [za];rw [Hp _ h];rfl
 ·rw [ay (by simpa using hw),if_neg hw];rfl
end cK
end
