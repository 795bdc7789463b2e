/- Parts of my machine and its laws, joined: AmP1 AmP2 P33a P33c P33d P33e P33f P33g. No condition. -/
import Derived.Test.YtafgdbaekppjcaaGreatDoorAmP0
import Derived.Test.YtafgdbaekppjcaaGreatDoorG33M
set_option linter.unusedSectionVars false
set_option linter.unusedVariables false
set_option linter.unusedSimpArgs false
section
namespace Go.Pl
theorem wrap_i64 {n:Int} (h0: -9223372036854775808<=n) (h1:n < 9223372036854775808):IntKind.i64.wrap n=n:=by
 unfold IntKind.wrap;have e1:(2:Int) ^ IntKind.i64.bits=18446744073709551616:=by decide
 have e2:(2:Int) ^ (IntKind.i64.bits - 1)=9223372036854775808:=by decide
 simp only [e1,e2,IntKind.signed,Bool.true_and,decide_eq_true_eq];split<;>omega
theorem bH {x y:Int} (h0: -9223372036854775808<=x+y) (h1:x+y < 9223372036854775808):aO .i64 x y=x+y:=wrap_i64 h0 h1
theorem ef {x y:Int} (h0: -9223372036854775808<=x - y) (h1:x - y < 9223372036854775808):dF .i64 x y=x - y:=wrap_i64 h0 h1
theorem iA {x y:Int} (h0: -9223372036854775808<=x*y) (h1:x*y < 9223372036854775808):dw .i64 x y=x*y:=wrap_i64 h0 h1
theorem ay {k:Nat} (h:k < 9223372036854775807):aO .i64 (k:Int) 1=((k+1:Nat):Int):=by rw [bH (by omega) (by omega)];rfl
theorem zl {α:Type} (l:List α) (k:Nat):idx l (k:Int)=l[k]?:=by simp [idx]
theorem aK {α:Type} {l:List α} {k:Nat} (h:k < l.length):idx l (k:Int)=some l[k]:=by simp [zl,h]
theorem nc {α:Type} {l:List α} {i:Int} (h0:0<=i) (h1:i < l.length):∃ h:i.toNat < l.length,idx l i=some l[i.toNat]:=by
 refine ⟨by omega,?_⟩;unfold idx;rw [if_pos h0,List.getElem?_eq_getElem (by omega)]
theorem aU {α:Type} {bytes:Nat} {l m:List α} (h:(l.length+m.length)*bytes<=1099511627776) (h2:l.length+m.length<=1099511627776):cX bytes l m=some (l++m):=by
 unfold cX;rw [if_pos ⟨h,h2⟩]
theorem KO {ρ:Type} {body:Int->Option (Int⊕ρ)} (n:Nat) (hn:n < fuel) (P:Nat->Prop) (Q:ρ->Prop) (h0:P 0)
 (h:∀ k:Nat,k<=n->P k->(k < n/\body k=some (.inl ((k+1:Nat):Int))/\P (k+1))\/∃ r,body k=some (.inr r)/\Q r):∃ r,iter body 0=some r/\Q r:=by
 refine rA (fun s:Int=>∃ k:Nat,s=(k:Int)/\k<=n/\P k) (fun s:Int=>n - s.toNat) Q ⟨0,rfl,Nat.zero_le _,h0⟩ (by simp;exact hn) ?_;rintro s ⟨k,rfl,hk,hp⟩;rcases h k hk hp with ⟨h1,h2,h3⟩ | ⟨r,h1,h2⟩
 ·exact .inl ⟨_,h2,⟨k+1,rfl,h1,h3⟩,by simp;omega⟩
 ·exact .inr ⟨r,h1,h2⟩
theorem F9 {τ ρ:Type} {body:Int×τ->Option ((Int×τ)⊕ρ)} {t0:τ} (n:Nat) (hn:n < fuel) (P:Nat->τ->Prop) (Q:ρ->Prop) (h0:P 0 t0)
 (h:∀ (k:Nat) (t:τ),k<=n->P k t->(∃ t',k < n/\body (k,t)=some (.inl (((k+1:Nat):Int),t'))/\P (k+1) t')\/∃ r,body (k,t)=some (.inr r)/\Q r):∃ r,iter body (0,t0)=some r/\Q r:=by
 refine rA (fun s:Int×τ=>∃ k:Nat,s.1=(k:Int)/\k<=n/\P k s.2) (fun s:Int×τ=>n - s.1.toNat) Q ⟨0,rfl,Nat.zero_le _,h0⟩ (by simp;exact hn) ?_;rintro ⟨s,t⟩ ⟨k,hs,hk,hp⟩;simp only at hs hp;subst hs;rcases h k t hk hp with ⟨t',h1,h2,h3⟩ | ⟨r,h1,h2⟩
 ·exact .inl ⟨_,h2,⟨k+1,rfl,h1,h3⟩,by simp;omega⟩
 ·exact .inr ⟨r,h1,h2⟩
theorem Gj {τ ρ:Type} {body:τ×Int->Option ((τ×Int)⊕ρ)} {t0:τ} (n:Nat) (hn:n < fuel) (P:Nat->τ->Prop) (Q:ρ->Prop) (h0:P 0 t0)
 (h:∀ (k:Nat) (t:τ),k<=n->P k t->(∃ t',k < n/\body (t,k)=some (.inl (t',((k+1:Nat):Int)))/\P (k+1) t')\/∃ r,body (t,k)=some (.inr r)/\Q r):∃ r,iter body (t0,0)=some r/\Q r:=by
 refine rA (fun s:τ×Int=>∃ k:Nat,s.2=(k:Int)/\k<=n/\P k s.1) (fun s:τ×Int=>n - s.2.toNat) Q ⟨0,rfl,Nat.zero_le _,h0⟩ (by simp;exact hn) ?_;rintro ⟨t,s⟩ ⟨k,hs,hk,hp⟩;simp only at hs hp;subst hs;rcases h k t hk hp with ⟨t',h1,h2,h3⟩ | ⟨r,h1,h2⟩
 ·exact .inl ⟨_,h2,⟨k+1,rfl,h1,h3⟩,by simp;omega⟩
 ·exact .inr ⟨r,h1,h2⟩
theorem aM {α:Type} {c:Bool} {a b:α} (h:c=true):(bif c then a else b)=a:=by rw [h];rfl
theorem aJ {α:Type} {c:Bool} {a b:α} (h:c=false):(bif c then a else b)=b:=by rw [h];rfl
theorem bO {a b:Int} (h:a < b):decide (a < b)=true:=by simpa using h
theorem bF {a b:Int} (h:¬ a < b):decide (a < b)=false:=by simpa using h
theorem Mi {a b:Int} (h:a<=b):decide (a<=b)=true:=by simpa using h
theorem Uu {a b:Int} (h:¬ a<=b):decide (a<=b)=false:=by simpa using h
end Go.Pl
end
section
namespace Go.Pl
def first {ρ:Type} (n:Nat) (g:Nat->Option ρ):Option ρ:=(List.range n).findSome? g
theorem ld {ρ:Type} {n:Nat} {g:Nat->Option ρ} (h:∀ k,k < n->g k=none):first n g=none:=by
 unfold first
 rw [List.findSome?_eq_none_iff];intro k hk;exact h k (List.mem_range.1 hk)
theorem bR {ρ:Type} {n:Nat} {g:Nat->Option ρ}:first n g=none↔∀ k,k < n->g k=none:=by
 unfold first
 rw [List.findSome?_eq_none_iff];exact ⟨fun h k hk=>h k (List.mem_range.2 hk),fun h k hk=>h k (List.mem_range.1 hk)⟩
theorem oU {ρ:Type} {n:Nat} {g:Nat->Option ρ} {k:Nat} {r:ρ} (hk:k < n) (h:∀ j,j < k->g j=none) (hr:g k=some r):first n g=some r:=by
 unfold first
 have e:List.range n=List.range k++(k::(List.range' (k+1) (n - (k+1)))):=by
  have h1:=List.range'_append_1 (s:=0) (m:=k) (n:=n - (k+1)+1);rw [Nat.zero_add] at h1;rw [List.range_eq_range',List.range_eq_range',<-List.range'_succ,h1];congr 1;omega
 rw [e,List.findSome?_append];have:(List.range k).findSome? g=none:=by
  rw [List.findSome?_eq_none_iff];intro j hj;exact h j (List.mem_range.1 hj)
 rw [this];simp [hr]
theorem bn {σ α ρ:Type} {body:σ->Option (σ⊕(α⊕ρ))} {s0:σ} (st:Nat->σ) (g:Nat->Option ρ) (n:Nat) (hn:n < fuel) (u:α) (h0:s0=st 0)
 (h:∀ k,k < n->(∀ j,j < k->g j=none)->body (st k)=some (match g k with | none=> .inl (st (k+1)) | some r=> .inr (.inr r)))
 (he:(∀ j,j < n->g j=none)->body (st n)=some (.inr (.inl u))):iter body s0=some (match first n g with | none=> .inl u | some r=> .inr r):=by
 subst h0;have key:∀ m k,k<=n->n - k < m->(∀ j,j < k->g j=none)->lE body m (st k)=some (match first n g with | none=> .inl u | some r=> .inr r):=by
  intro m;induction m with
  | zero=>intro k _ hlt;omega
  | succ m ih=>
   intro k hk hm hj;rw [lE];by_cases hkn:k < n
   ·rw [h k hkn hj]
    cases hg:g k with
    | none=>
     exact ih (k+1) hkn (by omega) (fun j hj'=>by
      rcases Nat.lt_or_ge j k with e | e
      ·exact hj j e
      ·have:j=k:=by omega
       subst this;exact hg)
    | some r=>simp only [oU hkn hj hg]
   ·have:k=n:=by omega
    subst this;rw [he hj,ld hj]
 exact key fuel 0 (Nat.zero_le _) (by omega) (fun j hj=>by omega)
theorem bh {σ ρ:Type} {body:σ->Option (σ⊕ρ)} {s0:σ} (st:Nat->σ) (n:Nat) (hn:n < fuel) (r:ρ) (h0:s0=st 0)
 (h:∀ k,k < n->body (st k)=some (.inl (st (k+1)))) (he:body (st n)=some (.inr r)):iter body s0=some r:=by
 subst h0;have key:∀ m k,k<=n->n - k < m->lE body m (st k)=some r:=by
  intro m;induction m with
  | zero=>intro k _ hlt;omega
  | succ m ih=>
   intro k hk hm;rw [lE];by_cases hkn:k < n
   ·rw [h k hkn];exact ih (k+1) hkn (by omega)
   ·have:k=n:=by omega
    subst this;rw [he]
 exact key fuel 0 (Nat.zero_le _) (by omega)
theorem oV {α ρ:Type} (f:α->Option ρ):∀ l:List α,first l.length (fun k=>l[k]?.bind f)=l.findSome? f
 | []=>rfl
 | x::l=>by
  have ih:=oV f l;unfold first at ih ⊢
  rw [List.length_cons,List.range_succ_eq_map,List.findSome?_cons,List.findSome?_cons,List.findSome?_map,<-ih];rfl
theorem dJ {α β ρ:Type} {body:Int->Option (Int⊕(β⊕ρ))} {s0:Int} (l:List α) (f:α->Option ρ) (hn:l.length < fuel) (u:β) (h0:s0=0)
 (h:∀ (k:Nat) (hk:k < l.length),body (k:Int)=some (match f l[k] with | none=> .inl ((k+1:Nat):Int) | some r=> .inr (.inr r)))
 (he:body (l.length:Int)=some (.inr (.inl u))):iter body s0=some (match l.findSome? f with | none=> .inl u | some r=> .inr r):=by
 rw [bn (fun k:Nat=>(k:Int)) (fun k=>l[k]?.bind f) l.length hn u (by rw [h0];rfl) (fun k hk _=>by
  have e:l[k]?.bind f=f l[k]:=by rw [List.getElem?_eq_getElem hk];rfl
  rw [e];exact h k hk) (fun _=>he),oV]
theorem dU {α ρ:Type} (p:α->Bool) (r:ρ):∀ l:List α,l.findSome? (fun x=>bif p x then some r else none)=bif l.any p then some r else none
 | []=>rfl
 | x::l=>by
  rw [List.findSome?_cons,dU p r l,List.any_cons]
  cases p x<;>rfl
end Go.Pl
end
section
namespace cQ
open Go Go.Pl
set_option linter.unusedVariables false
set_option linter.unusedSimpArgs false
theorem K0 {α:Type} {body:Int->Option (Int⊕(Unit⊕α))} (n:Nat) (hn:n < fuel) (h:∀ k:Nat,k < n->body k=some (.inl ((k+1:Nat):Int))) (he:body n=some (.inr (.inl ()))):iter body 0=some (.inl ()):=by
 obtain ⟨r,h1,h2⟩:=KO (body:=body) n hn (fun _=>True) (fun r=>r= .inl ()) trivial (fun k hk _=>by
  by_cases hkn:k < n
  ·exact .inl ⟨hkn,h k hkn,trivial⟩
  ·have:k=n:=by omega
   subst this;exact .inr ⟨_,he,rfl⟩)
 rw [h1,h2]
theorem ah.fT (e:ah):(⟨e.Op,e.Index,e.au⟩:ah)=e:=by cases e;rfl
end cQ
end
section
namespace cQ
open Go Go.Pl
theorem QC (a b:Bool):(bif a then some true else some b)=some (a||b):=by cases a<;>rfl
theorem Iq (a b:Bool):(bif a then some b else some false)=some (a&&b):=by cases a<;>rfl
theorem NP {k:Nat} (h:0 < k) (h2:k < 9223372036854775807):dF .i64 (k:Int) 1=((k - 1:Nat):Int):=by rw [ef (by omega) (by omega)];omega
def stepG (l:List bS) (k:Nat):Option Int:=
 match l[k]? with
 | none=>none
 | some x=>if ¬(0<=x.an/\x.an < 6) then some 2 else if k=0 then none else match l[k - 1]? with
  | none=>none
  | some y=>if x.an=y.an then some 7 else if x.an < y.an then some 9 else none
def n6 (x:bN):Int:=if x.aa.length=0 then 13 else if 6 < x.aa.length then 5 else
 match first x.aa.length (stepG x.aa) with | some r=>r | none=>if 0<=x.dn/\x.dn<=1000000 then 0 else 2
theorem NQ (x:bN):LN x=some (n6 x):=by
 unfold LN n6;by_cases h1:x.aa.length=0
 ·rw [aM (by simpa using h1),if_pos h1]
 rw [aJ (by simpa using h1),if_neg h1];by_cases h2:6 < x.aa.length
 ·rw [aM (by simp;omega),if_pos h2]
 rw [aJ (by simp;omega),if_neg h2];rw [bn (fun k:Nat=>(k:Int)) (stepG x.aa) x.aa.length ?hn () ?h0 ?h ?he]
 case hn=>unfold fuel;omega
 case h0=>rfl
 case he=>
  intro _;try dsimp only
  rw [aJ (bF (by omega))]
 case h=>
  intro k hk _;try dsimp only
  rw [aM (bO (by omega)),aK hk];simp only [Option.bind_some,P8,Iq];unfold stepG;rw [List.getElem?_eq_getElem hk];dsimp only;by_cases hA:0<=x.aa[k].an/\x.aa[k].an < 6
  ·rw [if_neg (by simpa using hA),aJ (by simp [hA])];by_cases Cw:k=0
   ·subst Cw;simp;rfl
   ·rw [if_neg Cw,NP (by omega) (by omega),aK (show k - 1 < x.aa.length by omega),List.getElem?_eq_getElem (show k - 1 < x.aa.length by omega)];have GY:decide ((k:Int) > 0)=true:=by simp;omega
    simp only [GY,cond_true,Option.bind_some];by_cases h3:x.aa[k].an=x.aa[k - 1].an
    ·simp [h3]
    ·by_cases h4:x.aa[k].an < x.aa[k - 1].an
     ·rw [if_neg h3,if_pos h4,aJ (by simpa using h3),aM (bO h4)]
     ·rw [if_neg h3,if_neg h4,aJ (by simpa using h3),aJ (bF h4),ay (by omega)]
  ·rw [if_pos (by simpa using hA),aM];simp only [Bool.not_eq_true',Bool.and_eq_false_iff,decide_eq_false_iff_not];omega
 cases first x.aa.length (stepG x.aa) with
 | some r=>rfl
 | none=>
  simp only [Option.bind_some,Sum.elim_inl,P9,Iq];by_cases hw:0<=x.dn/\x.dn<=1000000
  ·rw [if_pos hw,aJ (by simp [hw])]
  ·rw [if_neg hw,aM];simp only [Bool.not_eq_true',Bool.and_eq_false_iff,decide_eq_false_iff_not];omega
theorem NR (x:bN):LR x=some (n6 x):=by
 unfold LR n6;by_cases h1:x.aa.length=0
 ·rw [aM (by simpa using h1),if_pos h1]
 rw [aJ (by simpa using h1),if_neg h1];by_cases h2:6 < x.aa.length
 ·rw [aM (by simp;omega),if_pos h2]
 rw [aJ (by simp;omega),if_neg h2];rw [bn (fun k:Nat=>((if h:0 < k/\k - 1 < x.aa.length then x.aa[k - 1].an else -1),(k:Int))) (stepG x.aa) x.aa.length ?hn () ?h0 ?h ?he]
 case hn=>unfold fuel;omega
 case h0=>rfl
 case he=>
  intro _;try dsimp only
  rw [aJ (bF (by omega))]
 case h=>
  intro k hk _;try dsimp only
  rw [aM (bO (by omega)),aK hk];simp only [Option.bind_some,Qa,Iq];unfold stepG;rw [List.getElem?_eq_getElem hk];dsimp only;have hnext:∀ h,(if h:0 < k+1/\k+1 - 1 < x.aa.length then x.aa[k+1 - 1].an else -1)=(x.aa[k]'h).an:=by
   intro h;rw [dif_pos ⟨by omega,by omega⟩];rfl
  by_cases hA:0<=x.aa[k].an/\x.aa[k].an < 6
  ·rw [if_neg (by simpa using hA),aJ (by simp [hA])];by_cases Cw:k=0
   ·subst Cw;rw [if_pos rfl,dif_neg (by omega),aJ (by simp;omega),aJ (by simp;omega),hnext hk,ay (by omega)]
   ·rw [if_neg Cw,dif_pos ⟨by omega,by omega⟩,List.getElem?_eq_getElem (show k - 1 < x.aa.length by omega)];dsimp only;by_cases h3:x.aa[k].an=x.aa[k - 1].an
    ·simp [h3]
    ·by_cases h4:x.aa[k].an < x.aa[k - 1].an
     ·rw [if_neg h3,if_pos h4,aJ (by simpa using h3),aM (bO h4)]
     ·rw [if_neg h3,if_neg h4,aJ (by simpa using h3),aJ (bF h4),hnext hk,ay (by omega)]
  ·rw [if_pos (by simpa using hA),aM];simp only [Bool.not_eq_true',Bool.and_eq_false_iff,decide_eq_false_iff_not];omega
 cases first x.aa.length (stepG x.aa) with
 | some r=>rfl
 | none=>
  simp only [Option.bind_some,Sum.elim_inl,QC];by_cases hw:0<=x.dn/\x.dn<=1000000
  ·rw [if_pos hw,aJ (by simp;omega)]
  ·rw [if_neg hw,aM (by simp;omega)]
structure fY (x:bN):Prop where
 pos:0 < x.aa.length
 le:x.aa.length<=6
 act:∀ k (h:k < x.aa.length),0<=x.aa[k].an/\x.aa[k].an < 6
 inc:∀ k (h:k+1 < x.aa.length),x.aa[k].an < x.aa[k+1].an
 wait:0<=x.dn/\x.dn<=1000000
theorem vk {x:bN} (h:n6 x=0):fY x:=by
 unfold n6 at h;split at h
 ·omega
 split at h
 ·omega
 rename_i h1 h2;split at h
 ·rename_i r hr;exfalso;unfold first at hr
  obtain ⟨k,_,hk⟩:=List.exists_of_findSome?_eq_some hr;subst h;unfold stepG at hk;split at hk
  ·simp at hk
  ·split at hk
   ·simp at hk
   ·split at hk
    ·simp at hk
    ·split at hk
     ·simp at hk
     ·split at hk
      ·simp at hk
      ·split at hk<;>simp at hk
 ·rename_i hr;rw [bR] at hr;have ha:∀ k (h:k < x.aa.length),0<=x.aa[k].an/\x.aa[k].an < 6:=by
   intro k hk;have:=hr k hk;unfold stepG at this;rw [List.getElem?_eq_getElem hk] at this;dsimp only at this;refine Classical.byContradiction fun hc=>?_
   rw [if_pos hc] at this;simp at this
  refine ⟨by omega,by omega,ha,fun k hk=>?_,?_⟩
  ·have:=hr (k+1) hk;unfold stepG at this;rw [List.getElem?_eq_getElem hk,Nat.add_sub_cancel,List.getElem?_eq_getElem (show k < x.aa.length by omega)] at this;dsimp only at this;rw [if_neg (by simpa using ha (k+1) hk),if_neg (by omega)] at this;by_cases e:x.aa[k+1].an=x.aa[k].an
   ·rw [if_pos e] at this;simp at this
   ·rw [if_neg e] at this;by_cases e2:x.aa[k+1].an < x.aa[k].an
    ·rw [if_pos e2] at this;simp at this
    ·omega
  ·by_cases hw:0<=x.dn/\x.dn<=1000000
   ·exact hw
   ·rw [if_neg hw] at h;omega
def sg (l:List bS) (e:Nat->Bool):Nat->Bool:=l.foldl (fun e y=>fun a=>if y.an=(a:Int) then y.Out else e a) e
theorem BI {l:List bS} {k:Nat} (h:k < l.length) (e:Nat->Bool):sg (l.take (k+1)) e=fun a:Nat=>if l[k].an=(a:Int) then l[k].Out else sg (l.take k) e a:=by
 unfold sg;rw [List.take_add_one,List.getElem?_eq_getElem h,List.foldl_append];rfl
theorem map_set (n:Nat) (e:Nat->Bool) (a:Int) (v:Bool) (h0:0<=a):((List.range n).map e).set a.toNat v=(List.range n).map (fun b:Nat=>if a=(b:Int) then v else e b):=by
 apply List.ext_getElem
 ·simp
 ·intro i h1 h2;simp at h1;simp only [List.getElem_set,List.getElem_map,List.getElem_range];by_cases hi:a.toNat=i
  ·rw [if_pos hi,if_pos (by omega)]
  ·rw [if_neg hi,if_neg (by omega)]
theorem NS (x:bN) (n:Nat) (hn:n<=6) (e:Nat->Bool) (hx:x.aa.length<=6) (ha:∀ k (h:k < x.aa.length),0<=x.aa[k].an/\x.aa[k].an < n):
 LP x ((List.range n).map e)=some ((List.range n).map (sg x.aa e)):=by
 unfold LP;rw [aU (by simp;omega) (by simp;omega)];simp only [Option.bind_some,List.nil_append];rw [bh (fun k:Nat=>((k:Int),(List.range n).map (sg (x.aa.take k) e))) x.aa.length ?hn ((List.range n).map (sg x.aa e)) ?h0 ?h ?he]
 case hn=>unfold fuel;omega
 case h0=>rfl
 case he=>
  try dsimp only
  rw [aJ (bF (by omega)),List.take_of_length_le (Nat.le_refl _)]
 case h=>
  intro k hk;try dsimp only
  obtain ⟨h1,h2⟩:=ha k hk;rw [aM (bO (by omega)),aK hk];simp only [Option.bind_some];obtain ⟨h3,h4⟩:=nc (l:=(List.range n).map (sg (x.aa.take k) e)) h1 (by simpa using h2);rw [h4];simp only [Option.bind_some];rw [map_set _ _ _ _ h1,ay (by omega),BI hk]
 rfl
def cS (e:Nat->Bool):eJ 6 Bool:=⟨(List.range 6).map e,by simp⟩
theorem xV (e:Nat->Bool) (a:Int) (v:Bool) (h:0<=a):(cS e).put a.toNat v=cS (fun b:Nat=>if a=(b:Int) then v else e b):=Subtype.ext (map_set 6 e a v h)
theorem rP (e:Nat->Bool) {a:Int} (h:0<=a) (h2:a < 6):nM (cS e) a=some (e a.toNat):=by
 unfold nM idx;rw [if_pos h];have:a.toNat < 6:=by omega
 simp [cS,this]
theorem Nn (x:bN) (e:Nat->Bool) (hx:x.aa.length<=6) (ha:∀ k (h:k < x.aa.length),0<=x.aa[k].an/\x.aa[k].an < 6):
 LU (cS e) x=some (cS (sg x.aa e)):=by
 unfold LU;rw [bh (fun k:Nat=>((k:Int),cS (sg (x.aa.take k) e),eJ.rep 6 false)) x.aa.length ?hn (cS (sg x.aa e),eJ.rep 6 false) ?h0 ?h ?he]
 case hn=>unfold fuel;omega
 case h0=>rfl
 case he=>
  try dsimp only
  rw [aJ (bF (by omega)),List.take_of_length_le (Nat.le_refl _)]
 case h=>
  intro k hk;try dsimp only
  obtain ⟨h1,h2⟩:=ha k hk;rw [aM (bO (by omega)),aK hk];simp only [Option.bind_some];rw [rP _ h1 h2];simp only [Option.bind_some];rw [xV _ _ _ h1,ay (by omega),BI hk]
 rfl
def xo (x:bN) (e:Nat->Bool):Bool:=x.aa.any fun y=>e y.an.toNat==y.Out
theorem NT (x:bN) (n:Nat) (hn:n<=6) (e:Nat->Bool) (hx:x.aa.length<=6) (ha:∀ k (h:k < x.aa.length),0<=x.aa[k].an/\x.aa[k].an < n):
 LO x ((List.range n).map e)=some (!xo x e):=by
 unfold LO;rw [dJ x.aa (fun y=>bif e y.an.toNat==y.Out then some false else none) ?hn () ?h0 ?h ?he]
 case hn=>unfold fuel;omega
 case h0=>rfl
 case he=>
  try dsimp only
  rw [aJ (bF (by omega))]
 case h=>
  intro k hk;try dsimp only
  obtain ⟨h1,h2⟩:=ha k hk;rw [aM (bO (by omega)),aK hk];simp only [Option.bind_some];obtain ⟨h3,h4⟩:=nc (l:=(List.range n).map e) h1 (by simpa using h2);rw [aJ (by simp;omega),h4];simp only [Option.bind_some,List.getElem_map,List.getElem_range];rw [ay (by omega)]
  cases e x.aa[k].an.toNat==x.aa[k].Out<;>rfl
 rw [dU];unfold xo
 cases x.aa.any fun y=>e y.an.toNat==y.Out<;>rfl
def OA (s:ai) (x:bN):Bool:=x.aa.any fun y=>decide (y.an≥s.U)
theorem Pm {s:ai} {x:bN} (h:OA s x=false):∀ k (h:k < x.aa.length),x.aa[k].an < s.U:=by
 intro k hk;unfold OA at h;rw [List.any_eq_false] at h;have:=h x.aa[k] (List.getElem_mem hk);simp at this;omega
def D4 (s:ai) (x:bN) (e:Nat->Bool):Int:=if n6 x≠0 then n6 x else if OA s x=true then 6 else if xo x e=true then 14 else 0
theorem vV {α β ρ γ:Type} {body:Int×γ->Option ((Int×γ)⊕(β⊕ρ))} {w:γ} {s0:Int×γ} (l:List α) (f:α->Option ρ) (hn:l.length < fuel) (u:β) (h0:s0=(0,w))
 (h:∀ (k:Nat) (hk:k < l.length),body ((k:Int),w)=some (match f l[k] with | none=> .inl (((k+1:Nat):Int),w) | some r=> .inr (.inr r)))
 (he:body ((l.length:Int),w)=some (.inr (.inl u))):iter body s0=some (match l.findSome? f with | none=> .inl u | some r=> .inr r):=by
 rw [bn (fun k:Nat=>((k:Int),w)) (fun k=>l[k]?.bind f) l.length hn u (by rw [h0];rfl) (fun k hk _=>by
  have e:l[k]?.bind f=f l[k]:=by rw [List.getElem?_eq_getElem hk];rfl
  rw [e];exact h k hk) (fun _=>he),oV]
 try (cases l.findSome? f<;>rfl)
theorem Nm (s:ai) (x:bN) (e:Nat->Bool):LS s x (cS e)=some (D4 s x e):=by
 unfold LS D4;rw [NR];simp only [Option.bind_some];by_cases h0:n6 x=0
 ·have ho:=vk h0;rw [aJ (by simpa using h0),if_neg (by simpa using h0)];have hlen:=ho.le;rw [vV (w:=cS e) x.aa (fun y=>bif decide (y.an≥s.U) then some 6 else none) ?hn (cS e) ?h0 ?h ?he]
  case hn=>unfold fuel;omega
  case h0=>rfl
  case he=>
   try dsimp only
   rw [aJ (bF (by omega))]
  case h=>
   intro k hk;try dsimp only
   rw [aM (bO (by omega)),aK hk];simp only [Option.bind_some];rw [ay (by omega)]
   cases decide (x.aa[k].an≥s.U)<;>rfl
  rw [dU];unfold OA
  cases hf:x.aa.any fun y=>decide (y.an≥s.U) with
  | true=>rfl
  | false=>
   simp only [cond_false,Option.bind_some,Sum.elim_inl,Bool.false_eq_true,if_false];rw [vV (w:=cS e) x.aa (fun y=>bif e y.an.toNat==y.Out then some 14 else none) ?hn (cS e) ?h0 ?h ?he]
   case hn=>unfold fuel;omega
   case h0=>rfl
   case he=>
    try dsimp only
    rw [aJ (bF (by omega))]
   case h=>
    intro k hk;try dsimp only
    obtain ⟨h1,h2⟩:=ho.act k hk;rw [aM (bO (by omega)),aK hk];simp only [Option.bind_some];rw [rP _ h1 h2,ay (by omega)];simp only [Option.bind_some]
    cases e x.aa[k].an.toNat==x.aa[k].Out<;>rfl
   rw [dU];unfold xo
   cases x.aa.any fun y=>e y.an.toNat==y.Out<;>rfl
 ·rw [aM (by simpa using h0),if_pos h0]
def ends (s:ai) (k:Nat):Nat->Bool:=(s.Steps.take k).foldl (fun e x=>sg x.aa e) (fun _=>false)
theorem rQ {s:ai} {k:Nat} (h:k < s.Steps.length):ends s (k+1)=sg s.Steps[k].aa (ends s k):=by
 unfold ends;rw [List.take_add_one,List.getElem?_eq_getElem h,List.foldl_append];rfl
def Lr (l:List bS) (e:Nat->Bool):Nat->Bool:=l.foldl (fun e y=>fun a=>if y.an=(a:Int) then true else e a) e
def ff (s:ai) (k:Nat):Nat->Bool:=(s.Steps.take k).foldl (fun e x=>Lr x.aa e) (fun _=>false)
theorem vM {s:ai} {k:Nat} (h:k < s.Steps.length):ff s (k+1)=Lr s.Steps[k].aa (ff s k):=by
 unfold ff;rw [List.take_add_one,List.getElem?_eq_getElem h,List.foldl_append];rfl
def nR (s:ai) (k:Nat):Option Int:=match s.Steps[k]? with
 | none=>none
 | some x=>if D4 s x (ends s k)≠0 then some (D4 s x (ends s k)) else none
theorem nA {s:ai} {k:Nat} {r:Int} (hk:k < s.Steps.length) (h:D4 s s.Steps[k] (ends s k)=r) (hr:r≠0):nR s k=some r:=by
 unfold nR;rw [List.getElem?_eq_getElem hk];dsimp only;rw [h,if_pos hr]
theorem xU {s:ai} {k:Nat} (hk:k < s.Steps.length) (h:D4 s s.Steps[k] (ends s k)=0):nR s k=none:=by
 unfold nR;rw [List.getElem?_eq_getElem hk];dsimp only;rw [h,if_neg (by simp)]
structure So (s:ai) (x:bN):Prop where
 ok:fY x
 OA:∀ k (h:k < x.aa.length),x.aa[k].an < s.U
theorem rO {s:ai} {k:Nat} (hk:k < s.Steps.length) (h:nR s k=none):So s s.Steps[k]/\xo s.Steps[k] (ends s k)=false:=by
 unfold nR at h;rw [List.getElem?_eq_getElem hk] at h;dsimp only at h;by_cases h0:D4 s s.Steps[k] (ends s k)≠0
 ·rw [if_pos h0] at h;simp at h
 ·have h1:D4 s s.Steps[k] (ends s k)=0:=by simpa using h0
  unfold D4 at h1;split at h1
  ·rename_i h2;exact (h2 h1).elim
  ·split at h1
   ·omega
   ·split at h1
    ·omega
    ·rename_i a b c;exact ⟨⟨vk (by simpa using a),Pm (by simpa using b)⟩,by simpa using c⟩
def way (x:bN) (a:Int):Int:=match x.aa.findSome? (fun y=>bif y.an==a then some (if y.Out then (1:Int) else -1) else none) with | some r=>r | none=>0
def yT (x:bN) (a:Int):Bool:=x.aa.any fun y=>y.an==a
theorem NU (x:bN) (a:Int) (hx:x.aa.length<=9223372036854775807):LQ x a=some (way x a):=by
 unfold LQ way;rw [dJ x.aa (fun y=>bif y.an==a then some (if y.Out then (1:Int) else -1) else none) ?hn () ?h0 ?h ?he]
 case hn=>unfold fuel;omega
 case h0=>rfl
 case he=>
  try dsimp only
  rw [aJ (bF (by omega))]
 case h=>
  intro k hk;try dsimp only
  rw [aM (bO (by omega)),aK hk];simp only [Option.bind_some];rw [ay (by omega)]
  cases x.aa[k].an==a<;>cases x.aa[k].Out<;>rfl
 cases x.aa.findSome? (fun y=>bif y.an==a then some (if y.Out then (1:Int) else -1) else none)<;>rfl
theorem Sq (x:bN) (a:Int):(way x a !=0)=yT x a:=by
 unfold way yT;induction x.aa with
 | nil=>rfl
 | cons y l ih=>
  rw [List.findSome?_cons,List.any_cons]
  cases h:y.an==a with
  | true=>cases y.Out<;>rfl
  | false=>simpa using ih
theorem Sr (l:List bS) (e:Nat->Bool) (a:Nat):Lr l e a=(e a||l.any fun y=>y.an==(a:Int)):=by
 induction l generalizing e with
 | nil=>simp [Lr]
 | cons y l ih=>
  have:Lr (y::l) e=Lr l (fun a:Nat=>if y.an=(a:Int) then true else e a):=rfl;rw [this,ih,List.any_cons];by_cases h:y.an=(a:Int)
  ·simp [h]
  ·have hb:(y.an==(a:Int))=false:=by simpa using h
   rw [hb,if_neg h,Bool.false_or]
theorem Kq (s:ai) (a:Nat):∀ k,k<=s.Steps.length->ff s k a=(s.Steps.take k).any fun x=>yT x a:=by
 intro k;induction k with
 | zero=>intro _;simp [ff]
 | succ k ih=>
  intro hk;rw [vM (by omega),Sr,ih (by omega),List.take_add_one,List.getElem?_eq_getElem (by omega),List.any_append];simp [yT]
theorem RS (s:ai) (a:Int) (hs:s.Steps.length<=9223372036854775807) (hx:∀ x∈s.Steps,x.aa.length<=9223372036854775807):WI s a=some (s.Steps.any fun x=>yT x a):=by
 unfold WI;rw [dJ s.Steps (fun x=>bif yT x a then some true else none) ?hn () ?h0 ?h ?he]
 case hn=>unfold fuel;omega
 case h0=>rfl
 case he=>
  try dsimp only
  rw [aJ (bF (by omega))]
 case h=>
  intro k hk;try dsimp only
  rw [aM (bO (by omega)),aK hk];simp only [Option.bind_some];rw [NU _ _ (hx _ (List.getElem_mem hk)),ay (by omega)];simp only [Option.bind_some,Sq]
  cases yT s.Steps[k] a<;>rfl
 rw [dU]
 cases s.Steps.any fun x=>yT x a<;>rfl
theorem Ks {s:ai} {a:Nat} (ha:s.U<=a):∀ k,k<=s.Steps.length->(∀ j,j < k->nR s j=none)->ends s k a=false:=by
 intro k;induction k with
 | zero=>intro _ _;simp [ends]
 | succ k ih=>
  intro hk hj;have h1:=ih (by omega) (fun j hj'=>hj j (by omega));obtain ⟨h2,_⟩:=rO (show k < s.Steps.length by omega) (hj k (by omega));rw [rQ (by omega)];have key:∀ l:List bS,(∀ y∈l,y.an < s.U)->∀ e:Nat->Bool,sg l e a=e a:=by
   intro l;induction l with
   | nil=>intro _ e;rfl
   | cons y l ihl=>
    intro hl e;have:sg (y::l) e=sg l (fun a:Nat=>if y.an=(a:Int) then y.Out else e a):=rfl;rw [this,ihl (fun z hz=>hl z (by simp [hz]))];have:=hl y (by simp);rw [if_neg (by omega)]
  rw [key _ ?_]
  ·exact h1
  ·intro y hy;obtain ⟨i,hi,rfl⟩:=List.getElem_of_mem hy;exact h2.OA i hi
def yG (s:ai):Int:=
 if s.U < 1\/6 < s.U then 2 else if s.Steps.length=0 then 13 else if 64 < s.Steps.length then 5 else
 match first s.Steps.length (nR s) with
 | some r=>r
 | none=>if (List.range s.U.toNat).any (ends s s.Steps.length)=true then 9 else if (List.range s.U.toNat).all (ff s s.Steps.length)=true then 0 else 13
def QD (s:ai):Int:=match first s.Steps.length (nR s) with
 | some r=>r
 | none=>if (List.range s.U.toNat).any (ends s s.Steps.length)=true then 9 else 0
theorem RR (s:ai) (h1:1<=s.U) (h6:s.U<=6) (hs:s.Steps.length<=64):WH s=some (QD s):=by
 unfold WH QD;have hmk:qH 1 s.U false=some (List.replicate s.U.toNat false):=by
  unfold qH;rw [if_pos ⟨by omega,by omega,by omega⟩]
 rw [hmk];simp only [Option.bind_some];have hA:s.U.toNat<=6:=by omega
 rw [bn (fun k:Nat=>((List.range s.U.toNat).map (ends s k),(k:Int))) (nR s) s.Steps.length ?hn ((List.range s.U.toNat).map (ends s s.Steps.length)) ?h0 ?h ?he]
 case hn=>unfold fuel;omega
 case h0=>
  have:(List.range s.U.toNat).map (ends s 0)=List.replicate s.U.toNat false:=by
   apply List.ext_getElem
   ·simp
   ·intro i h1 h2;simp [ends]
  rw [this];rfl
 case he=>
  intro _;try dsimp only
  rw [aJ (bF (by omega))]
 case h=>
  intro k hk hj;try dsimp only
  rw [aM (bO (by omega)),aK hk];simp only [Option.bind_some];rw [NQ];simp only [Option.bind_some];by_cases e0:n6 s.Steps[k]=0
  ·have ho:=vk e0;have hle:=ho.le;rw [aJ (by simpa using e0)];rw [dJ s.Steps[k].aa (fun y=>bif decide (y.an≥s.U) then some (.inr (.inr 6)) else none) ?hn () ?h0 ?h ?he]
   case hn=>unfold fuel;omega
   case h0=>rfl
   case he=>
    try dsimp only
    rw [aJ (bF (by omega))]
   case h=>
    intro i hi;try dsimp only
    rw [aM (bO (by omega)),aK hi];simp only [Option.bind_some];rw [ay (by omega)]
    cases decide (s.Steps[k].aa[i].an≥s.U)<;>rfl
   rw [dU];have TE:(s.Steps[k].aa.any fun y=>decide (y.an≥s.U))=OA s s.Steps[k]:=rfl;rw [TE]
   cases hf:OA s s.Steps[k] with
   | true=>
    rw [nA hk (r:=6) (by unfold D4;rw [if_neg (by simpa using e0),if_pos hf]) (by decide)];rfl
   | false=>
    have QE:=Pm hf;have ha:∀ i (h:i < s.Steps[k].aa.length),0<=s.Steps[k].aa[i].an/\s.Steps[k].aa[i].an < (s.U.toNat:Int):=fun i hi=>⟨(ho.act i hi).1,by have:=QE i hi;omega⟩
    simp only [cond_false,Option.bind_some,Sum.elim_inl,Bool.false_eq_true,if_false];rw [NT _ _ hA _ ho.le ha];simp only [Option.bind_some,Bool.not_not]
    cases hc:xo s.Steps[k] (ends s k) with
    | true=>
     rw [nA hk (r:=14) (by unfold D4;rw [if_neg (by simpa using e0),if_neg (by simp [hf]),if_pos hc]) (by decide)];rfl
    | false=>
     rw [xU hk (by unfold D4;rw [if_neg (by simpa using e0),if_neg (by simp [hf]),if_neg (by simp [hc])])];simp only [cond_false];rw [NS _ _ hA _ ho.le ha,ay (by omega),rQ hk];rfl
  ·rw [aM (by simpa using e0),nA hk (by unfold D4;rw [if_pos e0]) e0]
 cases afp:first s.Steps.length (nR s) with
 | some r=>rfl
 | none=>
  simp only [Option.bind_some,Sum.elim_inl];rw [dJ (List.range s.U.toNat) (fun a=>bif ends s s.Steps.length a then some 9 else none) ?hn () ?h0 ?h ?he]
  case hn=>unfold fuel;simp;omega
  case h0=>rfl
  case he=>
   try dsimp only
   rw [aJ (bF (by simp;omega))]
  case h=>
   intro k hk;have hk':k < s.U.toNat:=by simpa using hk
   try dsimp only
   rw [aM (bO (by omega)),aK (by simpa using hk)];simp only [Option.bind_some,List.getElem_map,List.getElem_range];rw [ay (by omega)]
   cases ends s s.Steps.length k<;>rfl
  rw [dU]
  cases (List.range s.U.toNat).any (ends s s.Steps.length)<;>rfl
end cQ
end
section
namespace cQ
open Go Go.Pl
def Small (s:ai):Prop:=s.Steps.length<=9223372036854775807/\∀ x∈s.Steps,x.aa.length<=9223372036854775807
theorem IW (s:ai) (hs:Small s):S3 s=some (yG s):=by
 unfold S3 yG;rw [QC];simp only [Option.bind_some];by_cases h1:s.U < 1\/6 < s.U
 ·rw [aM (by simp only [Bool.or_eq_true,decide_eq_true_eq];omega),if_pos h1]
 rw [aJ (by simp only [Bool.or_eq_false_iff,decide_eq_false_iff_not];omega),if_neg h1];by_cases h2:s.Steps.length=0
 ·rw [aM (by simpa using h2),if_pos h2]
 rw [aJ (by simpa using h2),if_neg h2];by_cases h3:64 < s.Steps.length
 ·rw [aM (by simp;omega),if_pos h3]
 rw [aJ (by simp;omega),if_neg h3,RR s (by omega) (by omega) (by omega)];simp only [Option.bind_some];unfold QD
 cases hf:first s.Steps.length (nR s) with
 | some r=>
  have hr:r≠0:=by
   unfold first at hf
   obtain ⟨k,_,hk⟩:=List.exists_of_findSome?_eq_some hf;unfold nR at hk;split at hk
   ·simp at hk
   ·split at hk
    ·rename_i h;injection hk with hk;rw [<-hk];exact h
    ·simp at hk
  simp only;rw [aM (by simpa using hr)]
 | none=>
  simp only;by_cases h9:(List.range s.U.toNat).any (ends s s.Steps.length)=true
  ·rw [if_pos h9,if_pos h9];rfl
  rw [if_neg h9,if_neg h9,aJ (by rfl)];rw [dJ (List.range s.U.toNat) (fun a=>bif !ff s s.Steps.length a then some 13 else none) ?hn () ?h0 ?h ?he]
  case hn=>unfold fuel;simp;omega
  case h0=>rfl
  case he=>
   try dsimp only
   rw [aJ (bF (by simp;omega))]
  case h=>
   intro k hk;have hk':k < s.U.toNat:=by simpa using hk
   try dsimp only
   rw [aM (bO (by omega)),RS s _ hs.1 hs.2];simp only [Option.bind_some,List.getElem_range];rw [ay (by omega),Kq s k _ (Nat.le_refl _),List.take_of_length_le (Nat.le_refl _)]
   cases s.Steps.any fun x=>yT x (k:Int)<;>rfl
  rw [dU];have:(List.range s.U.toNat).any (fun a=> !ff s s.Steps.length a)= !(List.range s.U.toNat).all (ff s s.Steps.length):=by
   rw [List.not_all_eq_any_not]
  rw [this]
  cases (List.range s.U.toNat).all (ff s s.Steps.length)<;>rfl
theorem Kr {l:List bS} {k:Nat} (h:k < l.length) (e:Nat->Bool):Lr (l.take (k+1)) e=fun a:Nat=>if l[k].an=(a:Int) then true else Lr (l.take k) e a:=by
 unfold Lr;rw [List.take_add_one,List.getElem?_eq_getElem h,List.foldl_append];rfl
theorem Nl (l:List Bool) (hl:l.length<=6):LV l false=some (l.any fun b=>b==false):=by
 unfold LV Qb;rw [bn (fun k:Nat=>(k:Int)) (fun k=>match l[k]? with | some b=>bif b==false then some (k:Int) else none | none=>none) l.length ?hn () ?h0 ?h ?he]
 case hn=>unfold fuel;omega
 case h0=>rfl
 case he=>
  intro _;try dsimp only
  rw [aJ (bF (by omega))]
 case h=>
  intro k hk _;try dsimp only
  rw [aM (bO (by omega)),aK hk,List.getElem?_eq_getElem hk];simp only [Option.bind_some];rw [ay (by omega)]
  cases l[k]<;>rfl
 cases hf:first l.length (fun k=>match l[k]? with | some b=>bif b==false then some (k:Int) else none | none=>none) with
 | none=>
  rw [bR] at hf;have:(l.any fun b=>b==false)=false:=by
   rw [List.any_eq_false];intro b hb;obtain ⟨k,hk,rfl⟩:=List.getElem_of_mem hb;have:=hf k hk;rw [List.getElem?_eq_getElem hk] at this;dsimp only at this;intro hc;rw [hc] at this;simp at this
  rw [this];rfl
 | some r=>
  unfold first at hf
  obtain ⟨k,hk,hr⟩:=List.exists_of_findSome?_eq_some hf;have hk':k < l.length:=by simpa using hk
  rw [List.getElem?_eq_getElem hk'] at hr;dsimp only at hr
  cases hb:l[k]==false with
  | false=>rw [hb] at hr;simp at hr
  | true=>
   rw [hb] at hr;simp only [cond_true,Option.some.injEq] at hr;have:(l.any fun b=>b==false)=true:=by
    rw [List.any_eq_true];exact ⟨l[k],List.getElem_mem hk',hb⟩
   rw [this];subst hr;simp only [Option.bind_some,Sum.elim_inr];simp
theorem RT (s:ai):WL s=some (yG s):=by
 unfold WL yG;rw [QC];simp only [Option.bind_some];by_cases h1:s.U < 1\/6 < s.U
 ·rw [aM (by simp only [Bool.or_eq_true,decide_eq_true_eq];omega),if_pos h1]
 rw [aJ (by simp only [Bool.or_eq_false_iff,decide_eq_false_iff_not];omega),if_neg h1];by_cases h2:s.Steps.length=0
 ·rw [aM (by simpa using h2),if_pos h2]
 rw [aJ (by simpa using h2),if_neg h2];by_cases h3:64 < s.Steps.length
 ·rw [aM (by simp;omega),if_pos h3]
 rw [aJ (by simp;omega),if_neg h3];rw [bn (fun k:Nat=>((k:Int),cS (ends s k),cS (ff s k))) (nR s) s.Steps.length ?hn (cS (ends s s.Steps.length),cS (ff s s.Steps.length)) ?h0 ?h ?he]
 case hn=>unfold fuel;omega
 case h0=>rfl
 case he=>
  intro _;try dsimp only
  rw [aJ (bF (by omega))]
 case h=>
  intro k hk hj;try dsimp only
  rw [aM (bO (by omega)),aK hk];simp only [Option.bind_some];rw [Nm];simp only [Option.bind_some];by_cases e0:D4 s s.Steps[k] (ends s k)=0
  ·have hg:=xU hk e0;obtain ⟨h4,_⟩:=rO hk hg;have hle:=h4.ok.le;rw [aJ (by simpa using e0),hg,Nn _ _ h4.ok.le h4.ok.act];simp only [Option.bind_some];rw [bh (fun i:Nat=>((i:Int),cS (sg s.Steps[k].aa (ends s k)),cS (Lr (s.Steps[k].aa.take i) (ff s k)))) s.Steps[k].aa.length ?hn (cS (sg s.Steps[k].aa (ends s k)),cS (ff s (k+1))) ?h0 ?h ?he]
   case hn=>unfold fuel;omega
   case h0=>rfl
   case he=>
    try dsimp only
    rw [aJ (bF (by omega)),List.take_of_length_le (Nat.le_refl _),vM hk]
   case h=>
    intro i hi;try dsimp only
    obtain ⟨h5,h6⟩:=h4.ok.act i hi;rw [aM (bO (by omega)),aK hi];simp only [Option.bind_some];rw [rP _ h5 h6];simp only [Option.bind_some];rw [xV _ _ _ h5,ay (by omega),Kr hi]
   simp only [Option.bind_some];rw [ay (by omega),rQ hk]
  ·rw [aM (by simpa using e0),nA hk rfl e0]
 cases hf:first s.Steps.length (nR s) with
 | some r=>rfl
 | none=>
  simp only [Option.bind_some,Sum.elim_inl];have QE:∀ a:Nat,s.U<=a->ends s s.Steps.length a=false:=fun a ha=>Ks ha _ (Nat.le_refl _) (fun j hj=>(bR.1 hf) j hj)
  have he:((cS (ends s s.Steps.length)).1==(eJ.rep 6 false).1)= !(List.range s.U.toNat).any (ends s s.Steps.length):=by
   have hz:((cS (ends s s.Steps.length)).1=(eJ.rep 6 false).1)↔(List.range s.U.toNat).any (ends s s.Steps.length)=false:=by
    rw [List.any_eq_false];constructor
    ·intro h a ha;have PF:a < s.U.toNat:=List.mem_range.1 ha;have:=congrArg (fun l=>l[a]?) h;have h6:a < 6:=by omega
     have h7:(cS (ends s s.Steps.length)).1[a]?=some (ends s s.Steps.length a):=by
      simp only [cS,List.getElem?_map,List.getElem?_range h6,Option.map_some]
     have h8:(eJ.rep 6 false).1[a]?=some false:=by
      simp only [eJ.rep,List.getElem?_replicate,if_pos h6]
     simp only [h7,h8,Option.some.injEq] at this;simp [this]
    ·intro h;apply List.ext_getElem
     ·simp [cS,eJ.rep]
     ·intro a h1 h2;simp only [cS,eJ.rep,List.getElem_map,List.getElem_range,List.getElem_replicate];by_cases ha:a < s.U.toNat
      ·have:=h a (List.mem_range.2 ha);simpa using this
      ·exact QE a (by omega)
   cases hb:(List.range s.U.toNat).any (ends s s.Steps.length) with
   | false=>rw [hz.2 hb];simp
   | true=>
    rw [Bool.not_true,beq_eq_false_iff_ne];intro hc;rw [hz.1 hc] at hb;simp at hb
  rw [show ([false,false,false,false,false,false]:List Bool)=(eJ.rep 6 false).1 from rfl,he];by_cases h9:(List.range s.U.toNat).any (ends s s.Steps.length)=true
  ·rw [if_pos h9,h9];rfl
  ·rw [if_neg h9];simp only [Bool.not_eq_true] at h9;rw [h9];have yA:oe (cS (ff s s.Steps.length)).1 none (some s.U)=some ((List.range s.U.toNat).map (ff s s.Steps.length)):=by
    unfold oe;rw [if_pos ⟨by simp,by simp;omega,by simp [cS];omega⟩];congr 1;apply List.ext_getElem
    ·simp [cS];omega
    ·intro i h1 h2;simp [cS]
   simp only [Bool.not_false,bne_self_eq_false,cond_false];rw [yA];have hl:List.take (s.U.toNat - 0) (List.drop 0 (cS (ff s s.Steps.length)).1)=(List.range s.U.toNat).map (ff s s.Steps.length):=by
    apply List.ext_getElem
    ·simp [cS];omega
    ·intro i h1 h2;simp [cS]
   simp only [Option.bind_some];rw [if_pos (by omega),hl,Nl _ (by simp;omega)];simp only [Option.bind_some,List.any_map];have:(List.range s.U.toNat).any ((fun b=>b==false) ∘ ff s s.Steps.length)= !(List.range s.U.toNat).all (ff s s.Steps.length):=by
    rw [List.not_all_eq_any_not];congr 1;funext a
    simp
   rw [this]
   cases (List.range s.U.toNat).all (ff s s.Steps.length)<;>rfl
end cQ
end
section
namespace cQ
open Go Go.Pl
set_option linter.unusedVariables false
set_option linter.unusedSimpArgs false
def cnt (s:ai) (k:Nat):Nat:=((s.Steps.take k).filter (fun x=>x.dn !=0)).length
def pA (s:ai) (n:Int) (k:Nat):Int:=match s.Steps[k]? with
 | some x=>if x.dn=0 then -1 else n+(cnt s k:Int)
 | none=>0
def kL (s:ai) (n:Int) (k:Nat):List Int:=(List.range k).map (pA s n)
theorem jl {s:ai} {k:Nat} (h:k < s.Steps.length):cnt s (k+1)=if s.Steps[k].dn=0 then cnt s k else cnt s k+1:=by
 unfold cnt;rw [List.take_add_one,List.getElem?_eq_getElem h,List.filter_append];by_cases hw:s.Steps[k].dn=0
 ·rw [if_pos hw];simp [hw]
 ·rw [if_neg hw];simp [hw]
theorem zg (s:ai) (k:Nat):cnt s k<=s.Steps.length:=by
 unfold cnt;exact Nat.le_trans (List.length_filter_le _ _) (by rw [List.length_take];omega)
theorem qt {s:ai} {n:Int} {k:Nat}:kL s n (k+1)=kL s n k++[pA s n k]:=by
 unfold kL;rw [List.range_succ,List.map_append];rfl
theorem NV (s:ai) (n:Int) (hs:s.Steps.length<=64) (h0:0<=n) (h1:n < 1000000):L7 s n=some ⟨s,kL s n s.Steps.length⟩:=by
 unfold L7;rw [bh (fun k:Nat=>(n+(cnt s k:Int),(k:Int),(0:Int),([]:List bN),([]:List Int),s.U,s.Steps,kL s n k)) s.Steps.length ?hn ((0:Int),([]:List bN),([]:List Int),s.U,s.Steps,kL s n s.Steps.length) ?h0 ?h ?he]
 case hn=>unfold fuel;omega
 case h0=>simp [cnt,kL]
 case he=>
  try dsimp only
  rw [aJ (bF (by omega))]
 case h=>
  intro k hk;try dsimp only
  have hc:=zg s k;have hlen:(kL s n k).length=k:=by simp [kL]
  rw [aM (bO (by omega)),aK hk];simp only [Option.bind_some];rw [aU (by simp [hlen];omega) (by simp [hlen];omega),aU (by simp [hlen];omega) (by simp [hlen];omega)];have ht:pA s n k=if s.Steps[k].dn=0 then -1 else n+(cnt s k:Int):=by
   unfold pA;rw [List.getElem?_eq_getElem hk]
  by_cases hw:s.Steps[k].dn=0
  ·rw [aM (by simpa using hw)];simp only [Option.bind_some];rw [qt,ht,if_pos hw,jl hk,if_pos hw,ay (by omega)]
  ·rw [aJ (by simpa using hw)];simp only [Option.bind_some];rw [qt,ht,if_neg hw,jl hk,if_neg hw,ay (by omega),bH (by omega) (by omega)];rw [show n+(cnt s k:Int)+1=n+((cnt s k+1:Nat):Int) by omega]
 simp only [Option.bind_some]
end cQ
end
section
namespace cQ
open Go Go.Pl
set_option linter.unusedVariables false
set_option linter.unusedSimpArgs false
def mods (f:Int) (k:Nat):List Int:=(List.range k).map fun j:Nat=>f+(j:Int)
theorem xY {f:Int} {k:Nat}:mods f (k+1)=mods f k++[f+(k:Int)]:=by
 unfold mods;rw [List.range_succ,List.map_append];rfl
def fst (s:ai):Int:=2*s.U+1
theorem Si (s:ai) (hs:s.Steps.length<=64) (h0:1<=s.U) (h1:s.U<=6) (hw:∀ x∈s.Steps,0<=x.dn):
 To s=some ⟨s,fst s,if s.Steps.length=2 then [fst s+1,fst s] else mods (fst s) s.Steps.length,kL s (fst s+(s.Steps.length:Int)) s.Steps.length⟩:=by
 unfold To;have e1:aO .i64 (dw .i64 2 s.U) 1=fst s:=by
  have:dw .i64 2 s.U=2*s.U:=by unfold dw;exact wrap_i64 (by omega) (by omega)
  rw [this,bH (by omega) (by omega)];rfl
 have hf:3<=fst s/\fst s<=13:=by unfold fst;omega
 rw [e1,bH (show -9223372036854775808<=fst s+(s.Steps.length:Int) by omega) (by omega)];rw [bh (fun k:Nat=>(fst s+(s.Steps.length:Int)+(cnt s k:Int),(k:Int),s.U,s.Steps,fst s,mods (fst s) k,kL s (fst s+(s.Steps.length:Int)) k)) s.Steps.length ?hn (s.U,s.Steps,fst s,mods (fst s) s.Steps.length,kL s (fst s+(s.Steps.length:Int)) s.Steps.length) ?h0 ?h ?he]
 case hn=>unfold fuel;omega
 case h0=>simp [cnt,kL,mods]
 case he=>
  try dsimp only
  rw [aJ (bF (by omega))]
 case h=>
  intro k hk;try dsimp only
  have hc:=zg s k;have hlen:(kL s (fst s+(s.Steps.length:Int)) k).length=k:=by simp [kL]
  have TK:(mods (fst s) k).length=k:=by simp [mods]
  rw [aM (bO (by omega)),aK hk];simp only [Option.bind_some];rw [aU (by simp [TK];omega) (by simp [TK];omega),aU (by simp [hlen];omega) (by simp [hlen];omega)];simp only [Option.bind_some];have ht:pA s (fst s+(s.Steps.length:Int)) k=if s.Steps[k].dn=0 then -1 else fst s+(s.Steps.length:Int)+(cnt s k:Int):=by
   unfold pA;rw [List.getElem?_eq_getElem hk]
  have hk2:k < (kL s (fst s+(s.Steps.length:Int)) k++[-1]).length:=by simp [hlen]
  have hw':=hw _ (List.getElem_mem hk);rw [bH (show -9223372036854775808<=fst s+(k:Int) by omega) (by omega),<-xY];by_cases hw0:s.Steps[k].dn=0
  ·rw [aJ (by simp;omega)];simp only [Option.bind_some];rw [qt,ht,if_pos hw0,jl hk,if_pos hw0,ay (by omega)]
  ·rw [aM (by simp;omega),aK hk2];simp only [Option.bind_some];rw [qt,ht,if_neg hw0,jl hk,if_neg hw0,ay (by omega),bH (by omega) (by omega)];rw [show fst s+(s.Steps.length:Int)+(cnt s k:Int)+1=fst s+(s.Steps.length:Int)+((cnt s k+1:Nat):Int) by omega];have:(kL s (fst s+(s.Steps.length:Int)) k++[-1]).set (k:Int).toNat (fst s+(s.Steps.length:Int)+(cnt s k:Int))=kL s (fst s+(s.Steps.length:Int)) k++[fst s+(s.Steps.length:Int)+(cnt s k:Int)]:=by
    rw [show (k:Int).toNat=(kL s (fst s+(s.Steps.length:Int)) k).length+0 by simp [hlen],List.set_append_right _ _ (by omega)];simp
   rw [this]
 simp only [Option.bind_some];by_cases h2:s.Steps.length=2
 ·rw [aM (by simp [h2]),if_pos h2,bH (by omega) (by omega)];rfl
 ·rw [aJ (by simp;omega),if_neg h2];rfl
end cQ
end
section
namespace cQ
open Go Go.Pl
set_option linter.unusedVariables false
set_option linter.unusedSimpArgs false
theorem fst_eq {s:ai} (h0:1<=s.U) (h1:s.U<=6):aO .i64 (dw .i64 2 s.U) 1=fst s:=by
 have:dw .i64 2 s.U=2*s.U:=by unfold dw;exact wrap_i64 (by omega) (by omega)
 rw [this,bH (by omega) (by omega)];rfl
theorem mE {s:ai} (h0:1<=s.U) (h1:s.U<=6):3<=fst s/\fst s<=13:=by unfold fst;omega
theorem Sz (s:ai) (hs:s.Steps.length<=64) (h0:1<=s.U) (h1:s.U<=6):Oo s=some ⟨s,kL s (fst s+(s.Steps.length:Int)) s.Steps.length⟩:=by
 have hf:=mE h0 h1;unfold Oo PD;rw [fst_eq h0 h1];simp only [Option.bind_some];rw [bH (by omega) (by omega),NV s _ hs (by omega) (by omega)];rfl
theorem SA (s:ai) (hs:s.Steps.length<=64) (h0:1<=s.U) (h1:s.U<=6):Oq s=some (if s.Steps.length=2 then [fst s+1,fst s] else mods (fst s) s.Steps.length):=by
 have hf:=mE h0 h1;unfold Oq PD;rw [fst_eq h0 h1];simp only [Option.bind_some];by_cases h2:s.Steps.length=2
 ·rw [aM (by simp [h2]),if_pos h2,bH (by omega) (by omega)]
 ·rw [aJ (by simp;omega),if_neg h2];rw [bh (fun k:Nat=>((k:Int),mods (fst s) k)) s.Steps.length ?hn (mods (fst s) s.Steps.length) ?h0 ?h ?he]
  case hn=>unfold fuel;omega
  case h0=>simp [mods]
  case he=>
   try dsimp only
   rw [aJ (bF (by omega))]
  case h=>
   intro k hk;try dsimp only
   have TK:(mods (fst s) k).length=k:=by simp [mods]
   rw [aM (bO (by omega)),aU (by simp [TK];omega) (by simp [TK];omega)];simp only [Option.bind_some];rw [ay (by omega),bH (by omega) (by omega),xY]
  rfl
theorem Of {s:ai} {n:Int} {k:Nat} (hk:k < s.Steps.length):pA s n k=if s.Steps[k].dn=0 then -1 else n+(cnt s k:Int):=by
 unfold pA;rw [List.getElem?_eq_getElem hk]
theorem jT {s:ai} {n:Int} {k:Nat} (hk:k < s.Steps.length) (hn:0<=n):decide (pA s n k≥0)=(s.Steps[k].dn !=0):=by
 have e:=Of (n:=n) hk;by_cases hw:s.Steps[k].dn=0
 ·rw [if_pos hw] at e;have:decide (pA s n k≥0)=false:=by simp only [decide_eq_false_iff_not];omega
  rw [this];simp [hw]
 ·rw [if_neg hw] at e;have:decide (pA s n k≥0)=true:=by simp only [decide_eq_true_eq];omega
  rw [this];simp [hw]
theorem SU (s:ai) (n:Int) (hn:0<=n) (hs:s.Steps.length<=64):WS ⟨s,kL s n s.Steps.length⟩=some (cnt s s.Steps.length:Int):=by
 unfold WS;have hlen:(kL s n s.Steps.length).length=s.Steps.length:=by simp [kL]
 rw [bh (fun k:Nat=>((cnt s k:Int),(k:Int))) s.Steps.length ?hn (cnt s s.Steps.length:Int) ?h0 ?h ?he]
 case hn=>unfold fuel;omega
 case h0=>simp [cnt]
 case he=>
  try dsimp only
  rw [aJ (bF (by omega))]
 case h=>
  intro k hk;try dsimp only
  have hc:=zg s k;have hg:(kL s n s.Steps.length)[k]'(by omega)=pA s n k:=by simp [kL]
  rw [aM (bO (by omega)),aK (show k < (kL s n s.Steps.length).length by omega),hg];simp only [Option.bind_some];rw [jT hk hn];by_cases hw:s.Steps[k].dn=0
  ·rw [aJ (by simp [hw]),jl hk,if_pos hw,ay (by omega)];rfl
  ·rw [aM (by simpa using hw),jl hk,if_neg hw,ay (by omega),ay (by omega)];rfl
 rfl
end cQ
end
