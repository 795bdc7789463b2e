/- Parts of my machine and its laws, joined: AmP1 AmP2 P33a P33c P33d P33e P33f P33g P33h. No condition. -/
import Derived.Test.YtafgdbaekppjcaaGreatDoorG33M
set_option linter.unusedSectionVars false
set_option linter.unusedVariables false
set_option linter.unusedSimpArgs false
section
namespace Go.Pl
theorem wrap_i64 {n:Int} (h0: -9223372036854775808<=n) (h1:n < 9223372036854775808):IntKind.i64.wrap n=n:=by
 unfold IntKind.wrap;have e1:(2:Int) ^ IntKind.i64.bits=18446744073709551616:=by decide
 have e2:(2:Int) ^ (IntKind.i64.bits - 1)=9223372036854775808:=by decide
 simp only [e1,e2,IntKind.signed,zaS,decide_eq_true_eq];split<;>omega
theorem bA {x y:Int} (h0: -9223372036854775808<=x+y) (h1:x+y < 9223372036854775808):aE .i64 x y=x+y:=wrap_i64 h0 h1
theorem dI {x y:Int} (h0: -9223372036854775808<=x - y) (h1:x - y < 9223372036854775808):ct .i64 x y=x - y:=wrap_i64 h0 h1
theorem gI {x y:Int} (h0: -9223372036854775808<=x*y) (h1:x*y < 9223372036854775808):dF .i64 x y=x*y:=wrap_i64 h0 h1
theorem aq {k:Nat} (h:k < 9223372036854775807):aE .i64 (k:Int) 1=((k+1:Nat):Int):=by rw [bA (by omega) (by omega)];rfl
theorem SN {α:Type} (l:List α) (k:Nat):idx l (k:Int)=l[k]?:=by simp [idx]
theorem ax {α:Type} {l:List α} {k:Nat} (h:k < l.length):idx l (k:Int)=some l[k]:=by simp [SN,h]
theorem kL {α:Type} {l:List α} {i:Int} (h0:0<=i) (h1:i < l.length):∃ h:i.toNat < l.length,idx l i=some l[i.toNat]:=by
 refine ⟨by omega,?_⟩;unfold idx;rw [if_pos h0,za1 (by omega)]
theorem aM {α:Type} {bytes:Nat} {l m:List α} (h:(l.length+m.length)*bytes<=1099511627776) (h2:l.length+m.length<=1099511627776):bX bytes l m=some (l++m):=by
 unfold bX;rw [if_pos ⟨h,h2⟩]
theorem Py {ρ:Type} {body:Int->Option (Int⊕ρ)} (n:Nat) (hn:n < fuel) (P:Nat->Prop) (Q:ρ->Prop) (h0:P 0)
 (h:∀ k:Nat,k<=n->P k->(k < n/\body k=some (.inl ((k+1:Nat):Int))/\P (k+1))\/∃ r,body k=some (.inr r)/\Q r):∃ r,iter body 0=some r/\Q r:=by
 refine tg (fun s:Int=>∃ k:Nat,s=(k:Int)/\k<=n/\P k) (fun s:Int=>n - s.toNat) Q ⟨0,rfl,zaO _,h0⟩ (by simp;exact hn) ?_;rintro s ⟨k,rfl,hk,hp⟩;rcases h k hk hp with ⟨h1,h2,h3⟩ | ⟨r,h1,h2⟩
 ·exact .inl ⟨_,h2,⟨k+1,rfl,h1,h3⟩,by simp;omega⟩
 ·exact .inr ⟨r,h1,h2⟩
theorem J3 {τ ρ:Type} {body:Int×τ->Option ((Int×τ)⊕ρ)} {t0:τ} (n:Nat) (hn:n < fuel) (P:Nat->τ->Prop) (Q:ρ->Prop) (h0:P 0 t0)
 (h:∀ (k:Nat) (t:τ),k<=n->P k t->(∃ t',k < n/\body (k,t)=some (.inl (((k+1:Nat):Int),t'))/\P (k+1) t')\/∃ r,body (k,t)=some (.inr r)/\Q r):∃ r,iter body (0,t0)=some r/\Q r:=by
 refine tg (fun s:Int×τ=>∃ k:Nat,s.1=(k:Int)/\k<=n/\P k s.2) (fun s:Int×τ=>n - s.1.toNat) Q ⟨0,rfl,zaO _,h0⟩ (by simp;exact hn) ?_;rintro ⟨s,t⟩ ⟨k,hs,hk,hp⟩;simp only at hs hp;subst hs;rcases h k t hk hp with ⟨t',h1,h2,h3⟩ | ⟨r,h1,h2⟩
 ·exact .inl ⟨_,h2,⟨k+1,rfl,h1,h3⟩,by simp;omega⟩
 ·exact .inr ⟨r,h1,h2⟩
theorem Kf {τ ρ:Type} {body:τ×Int->Option ((τ×Int)⊕ρ)} {t0:τ} (n:Nat) (hn:n < fuel) (P:Nat->τ->Prop) (Q:ρ->Prop) (h0:P 0 t0)
 (h:∀ (k:Nat) (t:τ),k<=n->P k t->(∃ t',k < n/\body (t,k)=some (.inl (t',((k+1:Nat):Int)))/\P (k+1) t')\/∃ r,body (t,k)=some (.inr r)/\Q r):∃ r,iter body (t0,0)=some r/\Q r:=by
 refine tg (fun s:τ×Int=>∃ k:Nat,s.2=(k:Int)/\k<=n/\P k s.1) (fun s:τ×Int=>n - s.2.toNat) Q ⟨0,rfl,zaO _,h0⟩ (by simp;exact hn) ?_;rintro ⟨t,s⟩ ⟨k,hs,hk,hp⟩;simp only at hs hp;subst hs;rcases h k t hk hp with ⟨t',h1,h2,h3⟩ | ⟨r,h1,h2⟩
 ·exact .inl ⟨_,h2,⟨k+1,rfl,h1,h3⟩,by simp;omega⟩
 ·exact .inr ⟨r,h1,h2⟩
theorem aK {α:Type} {c:Bool} {a b:α} (h:c=true):(bif c then a else b)=a:=by rw [h];rfl
theorem aG {α:Type} {c:Bool} {a b:α} (h:c=false):(bif c then a else b)=b:=by rw [h];rfl
theorem bw {a b:Int} (h:a < b):decide (a < b)=true:=by simpa using h
theorem bg {a b:Int} (h:¬ a < b):decide (a < b)=false:=by simpa using h
theorem Q0 {a b:Int} (h:a<=b):decide (a<=b)=true:=by simpa using h
theorem ZG {a b:Int} (h:¬ a<=b):decide (a<=b)=false:=by simpa using h
end Go.Pl
end
section
namespace Go.Pl
def first {ρ:Type} (n:Nat) (g:Nat->Option ρ):Option ρ:=(List.range n).findSome? g
theorem j8 {ρ:Type} {n:Nat} {g:Nat->Option ρ} (h:∀ k,k < n->g k=none):first n g=none:=by
 unfold first
 rw [zbt];intro k hk;exact h k (zac.1 hk)
theorem bC {ρ:Type} {n:Nat} {g:Nat->Option ρ}:first n g=none↔∀ k,k < n->g k=none:=by
 unfold first
 rw [zbt];exact ⟨fun h k hk=>h k (zac.2 hk),fun h k hk=>h k (zac.1 hk)⟩
theorem mK {ρ:Type} {n:Nat} {g:Nat->Option ρ} {k:Nat} {r:ρ} (hk:k < n) (h:∀ j,j < k->g j=none) (hr:g k=some r):first n g=some r:=by
 unfold first
 have e:List.range n=List.range k++(k::(List.range' (k+1) (n - (k+1)))):=by
  have h1:=List.range'_append_1 (s:=0) (m:=k) (n:=n - (k+1)+1);rw [zaD] at h1;rw [zbX,zbX,<-List.range'_succ,h1];congr 1;omega
 rw [e,List.findSome?_append];have:(List.range k).findSome? g=none:=by
  rw [zbt];intro j hj;exact h j (zac.1 hj)
 rw [this];simp [hr]
theorem bp {σ α ρ:Type} {body:σ->Option (σ⊕(α⊕ρ))} {s0:σ} (st:Nat->σ) (g:Nat->Option ρ) (n:Nat) (hn:n < fuel) (u:α) (h0:s0=st 0)
 (h:∀ k,k < n->(∀ j,j < k->g j=none)->body (st k)=some (match g k with | none=> .inl (st (k+1)) | some r=> .inr (.inr r)))
 (he:(∀ j,j < n->g j=none)->body (st n)=some (.inr (.inl u))):iter body s0=some (match first n g with | none=> .inl u | some r=> .inr r):=by
 subst h0;have key:∀ m k,k<=n->n - k < m->(∀ j,j < k->g j=none)->mT body m (st k)=some (match first n g with | none=> .inl u | some r=> .inr r):=by
  intro m;induction m with
  | zero=>intro k _ hlt;omega
  | succ m ih=>
   intro k hk hm hj;rw [mT];by_cases hkn:k < n
   ·rw [h k hkn hj]
    cases hg:g k with
    | none=>
     exact ih (k+1) hkn (by omega) (fun j hj'=>by
      rcases zak j k with e | e
      ·exact hj j e
      ·have:j=k:=by omega
       subst this;exact hg)
    | some r=>simp only [mK hkn hj hg]
   ·have:k=n:=by omega
    subst this;rw [he hj,j8 hj]
 exact key fuel 0 (zaO _) (by omega) (fun j hj=>by omega)
theorem aT {σ ρ:Type} {body:σ->Option (σ⊕ρ)} {s0:σ} (st:Nat->σ) (n:Nat) (hn:n < fuel) (r:ρ) (h0:s0=st 0)
 (h:∀ k,k < n->body (st k)=some (.inl (st (k+1)))) (he:body (st n)=some (.inr r)):iter body s0=some r:=by
 subst h0;have key:∀ m k,k<=n->n - k < m->mT body m (st k)=some r:=by
  intro m;induction m with
  | zero=>intro k _ hlt;omega
  | succ m ih=>
   intro k hk hm;rw [mT];by_cases hkn:k < n
   ·rw [h k hkn];exact ih (k+1) hkn (by omega)
   ·have:k=n:=by omega
    subst this;rw [he]
 exact key fuel 0 (zaO _) (by omega)
theorem qw {α ρ:Type} (f:α->Option ρ):∀ l:List α,first l.length (fun k=>l[k]?.bind f)=l.findSome? f
 | []=>rfl
 | x::l=>by
  have ih:=qw f l;unfold first at ih ⊢
  rw [zaK,List.range_succ_eq_map,zaY,zaY,List.findSome?_map,<-ih];rfl
theorem dY {α β ρ:Type} {body:Int->Option (Int⊕(β⊕ρ))} {s0:Int} (l:List α) (f:α->Option ρ) (hn:l.length < fuel) (u:β) (h0:s0=0)
 (h:∀ (k:Nat) (hk:k < l.length),body (k:Int)=some (match f l[k] with | none=> .inl ((k+1:Nat):Int) | some r=> .inr (.inr r)))
 (he:body (l.length:Int)=some (.inr (.inl u))):iter body s0=some (match l.findSome? f with | none=> .inl u | some r=> .inr r):=by
 rw [bp (fun k:Nat=>(k:Int)) (fun k=>l[k]?.bind f) l.length hn u (by rw [h0];rfl) (fun k hk _=>by
  have e:l[k]?.bind f=f l[k]:=by rw [za1 hk];rfl
  rw [e];exact h k hk) (fun _=>he),qw]
theorem er {α ρ:Type} (p:α->Bool) (r:ρ):∀ l:List α,l.findSome? (fun x=>bif p x then some r else none)=bif l.any p then some r else none
 | []=>rfl
 | x::l=>by
  rw [zaY,er p r l,zc1]
  cases p x<;>rfl
end Go.Pl
end
section
namespace ck
open Go Go.Pl
theorem jP {α:Type} {body:Int->Option (Int⊕(Unit⊕α))} (n:Nat) (hn:n < fuel) (h:∀ k:Nat,k < n->body k=some (.inl ((k+1:Nat):Int))) (he:body n=some (.inr (.inl ()))):iter body 0=some (.inl ()):=by
 obtain ⟨r,h1,h2⟩:=Py (body:=body) n hn (fun _=>True) (fun r=>r= .inl ()) trivial (fun k hk _=>by
  by_cases hkn:k < n
  ·exact .inl ⟨hkn,h k hkn,trivial⟩
  ·have:k=n:=by omega
   subst this;exact .inr ⟨_,he,rfl⟩)
 rw [h1,h2]
theorem ai.gy (e:ai):(⟨e.Op,e.Index,e.au⟩:ai)=e:=by cases e;rfl
end ck
end
section
namespace ck
open Go Go.Pl
theorem Vw (a b:Bool):(bif a then some true else some b)=some (a||b):=by cases a<;>rfl
theorem Mo (a b:Bool):(bif a then some b else some false)=some (a&&b):=by cases a<;>rfl
theorem SS {k:Nat} (h:0 < k) (h2:k < 9223372036854775807):ct .i64 (k:Int) 1=((k - 1:Nat):Int):=by rw [dI (by omega) (by omega)];omega
def stepG (l:List bS) (k:Nat):Option Int:=
 match l[k]? with
 | none=>none
 | some x=>if ¬(0<=x.aj/\x.aj < 6) then some 2 else if k=0 then none else match l[k - 1]? with
  | none=>none
  | some y=>if x.aj=y.aj then some 7 else if x.aj < y.aj then some 9 else none
def pC (x:cz):Int:=if x.ah.length=0 then 13 else if 6 < x.ah.length then 5 else
 match first x.ah.length (stepG x.ah) with | some r=>r | none=>if 0<=x.cX/\x.cX<=1000000 then 0 else 2
theorem SU (x:cz):Ra x=some (pC x):=by
 unfold Ra pC;by_cases h1:x.ah.length=0
 ·rw [aK (by simpa using h1),if_pos h1]
 rw [aG (by simpa using h1),if_neg h1];by_cases h2:6 < x.ah.length
 ·rw [aK (by simp;omega),if_pos h2]
 rw [aG (by simp;omega),if_neg h2];rw [bp (fun k:Nat=>(k:Int)) (stepG x.ah) x.ah.length ?hn () ?h0 ?h ?he]
 case hn=>unfold fuel;omega
 case h0=>rfl
 case he=>
  intro _;try dsimp only
  rw [aG (bg (by omega))]
 case h=>
  intro k hk _;try dsimp only
  rw [aK (bw (by omega)),ax hk];simp only [za,VH,Mo];unfold stepG;rw [za1 hk];dsimp only;by_cases hA:0<=x.ah[k].aj/\x.ah[k].aj < 6
  ·rw [if_neg (by simpa using hA),aG (by simp [hA])];by_cases Fp:k=0
   ·subst Fp;simp;rfl
   ·rw [if_neg Fp,SS (by omega) (by omega),ax (show k - 1 < x.ah.length by omega),za1 (show k - 1 < x.ah.length by omega)];have KX:decide ((k:Int) > 0)=true:=by simp;omega
    simp only [KX,cond_true,za];by_cases h3:x.ah[k].aj=x.ah[k - 1].aj
    ·simp [h3]
    ·by_cases h4:x.ah[k].aj < x.ah[k - 1].aj
     ·rw [if_neg h3,if_pos h4,aG (by simpa using h3),aK (bw h4)]
     ·rw [if_neg h3,if_neg h4,aG (by simpa using h3),aG (bg h4),aq (by omega)]
  ·rw [if_pos (by simpa using hA),aK];simp only [zbe,Bool.and_eq_false_iff,decide_eq_false_iff_not];omega
 cases first x.ah.length (stepG x.ah) with
 | some r=>rfl
 | none=>
  simp only [za,Sum.elim_inl,VI,Mo];by_cases hw:0<=x.cX/\x.cX<=1000000
  ·rw [if_pos hw,aG (by simp [hw])]
  ·rw [if_neg hw,aK];simp only [zbe,Bool.and_eq_false_iff,decide_eq_false_iff_not];omega
theorem SW (x:cz):QD x=some (pC x):=by
 unfold QD pC;by_cases h1:x.ah.length=0
 ·rw [aK (by simpa using h1),if_pos h1]
 rw [aG (by simpa using h1),if_neg h1];by_cases h2:6 < x.ah.length
 ·rw [aK (by simp;omega),if_pos h2]
 rw [aG (by simp;omega),if_neg h2];rw [bp (fun k:Nat=>((if h:0 < k/\k - 1 < x.ah.length then x.ah[k - 1].aj else -1),(k:Int))) (stepG x.ah) x.ah.length ?hn () ?h0 ?h ?he]
 case hn=>unfold fuel;omega
 case h0=>rfl
 case he=>
  intro _;try dsimp only
  rw [aG (bg (by omega))]
 case h=>
  intro k hk _;try dsimp only
  rw [aK (bw (by omega)),ax hk];simp only [za,U6,Mo];unfold stepG;rw [za1 hk];dsimp only;have hnext:∀ h,(if h:0 < k+1/\k+1 - 1 < x.ah.length then x.ah[k+1 - 1].aj else -1)=(x.ah[k]'h).aj:=by
   intro h;rw [dif_pos ⟨by omega,by omega⟩];rfl
  by_cases hA:0<=x.ah[k].aj/\x.ah[k].aj < 6
  ·rw [if_neg (by simpa using hA),aG (by simp [hA])];by_cases Fp:k=0
   ·subst Fp;rw [if_pos rfl,dif_neg (by omega),aG (by simp;omega),aG (by simp;omega),hnext hk,aq (by omega)]
   ·rw [if_neg Fp,dif_pos ⟨by omega,by omega⟩,za1 (show k - 1 < x.ah.length by omega)];dsimp only;by_cases h3:x.ah[k].aj=x.ah[k - 1].aj
    ·simp [h3]
    ·by_cases h4:x.ah[k].aj < x.ah[k - 1].aj
     ·rw [if_neg h3,if_pos h4,aG (by simpa using h3),aK (bw h4)]
     ·rw [if_neg h3,if_neg h4,aG (by simpa using h3),aG (bg h4),hnext hk,aq (by omega)]
  ·rw [if_pos (by simpa using hA),aK];simp only [zbe,Bool.and_eq_false_iff,decide_eq_false_iff_not];omega
 cases first x.ah.length (stepG x.ah) with
 | some r=>rfl
 | none=>
  simp only [za,Sum.elim_inl,Vw];by_cases hw:0<=x.cX/\x.cX<=1000000
  ·rw [if_pos hw,aG (by simp;omega)]
  ·rw [if_neg hw,aK (by simp;omega)]
structure gE (x:cz):Prop where
 pos:0 < x.ah.length
 le:x.ah.length<=6
 act:∀ k (h:k < x.ah.length),0<=x.ah[k].aj/\x.ah[k].aj < 6
 inc:∀ k (h:k+1 < x.ah.length),x.ah[k].aj < x.ah[k+1].aj
 wait:0<=x.cX/\x.cX<=1000000
theorem xN {x:cz} (h:pC x=0):gE x:=by
 unfold pC at h;split at h
 ·omega
 split at h
 ·omega
 rename_i h1 h2;split at h
 ·rename_i r hr;exfalso;unfold first at hr
  obtain ⟨k,_,hk⟩:=zae hr;subst h;unfold stepG at hk;split at hk
  ·simp at hk
  ·split at hk
   ·simp at hk
   ·split at hk
    ·simp at hk
    ·split at hk
     ·simp at hk
     ·split at hk
      ·simp at hk
      ·split at hk<;>simp at hk
 ·rename_i hr;rw [bC] at hr;have ha:∀ k (h:k < x.ah.length),0<=x.ah[k].aj/\x.ah[k].aj < 6:=by
   intro k hk;have:=hr k hk;unfold stepG at this;rw [za1 hk] at this;dsimp only at this;refine zbk fun hc=>?_
   rw [if_pos hc] at this;simp at this
  refine ⟨by omega,by omega,ha,fun k hk=>?_,?_⟩
  ·have:=hr (k+1) hk;unfold stepG at this;rw [za1 hk,Nat.add_sub_cancel,za1 (show k < x.ah.length by omega)] at this;dsimp only at this;rw [if_neg (by simpa using ha (k+1) hk),if_neg (by omega)] at this;by_cases e:x.ah[k+1].aj=x.ah[k].aj
   ·rw [if_pos e] at this;simp at this
   ·rw [if_neg e] at this;by_cases e2:x.ah[k+1].aj < x.ah[k].aj
    ·rw [if_pos e2] at this;simp at this
    ·omega
  ·by_cases hw:0<=x.cX/\x.cX<=1000000
   ·exact hw
   ·rw [if_neg hw] at h;omega
def o7 (l:List bS) (e:Nat->Bool):Nat->Bool:=l.foldl (fun e y=>fun a=>if y.aj=(a:Int) then y.Out else e a) e
theorem En {l:List bS} {k:Nat} (h:k < l.length) (e:Nat->Bool):o7 (l.take (k+1)) e=fun a:Nat=>if l[k].aj=(a:Int) then l[k].Out else o7 (l.take k) e a:=by
 unfold o7;rw [zb8,za1 h,List.foldl_append];rfl
theorem map_set (n:Nat) (e:Nat->Bool) (a:Int) (v:Bool) (h0:0<=a):((List.range n).map e).set a.toNat v=(List.range n).map (fun b:Nat=>if a=(b:Int) then v else e b):=by
 apply zb4
 ·simp
 ·intro i h1 h2;simp at h1;simp only [zbY,zay,zbi];by_cases hi:a.toNat=i
  ·rw [if_pos hi,if_pos (by omega)]
  ·rw [if_neg hi,if_neg (by omega)]
theorem I1 (x:cz) (n:Nat) (hn:n<=6) (e:Nat->Bool) (hx:x.ah.length<=6) (ha:∀ k (h:k < x.ah.length),0<=x.ah[k].aj/\x.ah[k].aj < n):
 Lw x ((List.range n).map e)=some ((List.range n).map (o7 x.ah e)):=by
 unfold Lw;rw [aM (by simp;omega) (by simp;omega)];simp only [za,zc3];rw [aT (fun k:Nat=>((k:Int),(List.range n).map (o7 (x.ah.take k) e))) x.ah.length ?hn ((List.range n).map (o7 x.ah e)) ?h0 ?h ?he]
 case hn=>unfold fuel;omega
 case h0=>rfl
 case he=>
  try dsimp only
  rw [aG (bg (by omega)),zah (za7 _)]
 case h=>
  intro k hk;try dsimp only
  obtain ⟨h1,h2⟩:=ha k hk;rw [aK (bw (by omega)),ax hk];simp only [za];obtain ⟨h3,h4⟩:=kL (l:=(List.range n).map (o7 (x.ah.take k) e)) h1 (by simpa using h2);rw [h4];simp only [za];rw [map_set _ _ _ _ h1,aq (by omega),En hk]
 rfl
def cv (e:Nat->Bool):eB 6 Bool:=⟨(List.range 6).map e,by simp⟩
theorem Af (e:Nat->Bool) (a:Int) (v:Bool) (h:0<=a):(cv e).put a.toNat v=cv (fun b:Nat=>if a=(b:Int) then v else e b):=Subtype.ext (map_set 6 e a v h)
theorem tK (e:Nat->Bool) {a:Int} (h:0<=a) (h2:a < 6):oU (cv e) a=some (e a.toNat):=by
 unfold oU idx;rw [if_pos h];have:a.toNat < 6:=by omega
 simp [cv,this]
theorem IP (x:cz) (e:Nat->Bool) (hx:x.ah.length<=6) (ha:∀ k (h:k < x.ah.length),0<=x.ah[k].aj/\x.ah[k].aj < 6):
 K0 (cv e) x=some (cv (o7 x.ah e)):=by
 unfold K0;rw [aT (fun k:Nat=>((k:Int),cv (o7 (x.ah.take k) e),eB.rep 6 false)) x.ah.length ?hn (cv (o7 x.ah e),eB.rep 6 false) ?h0 ?h ?he]
 case hn=>unfold fuel;omega
 case h0=>rfl
 case he=>
  try dsimp only
  rw [aG (bg (by omega)),zah (za7 _)]
 case h=>
  intro k hk;try dsimp only
  obtain ⟨h1,h2⟩:=ha k hk;rw [aK (bw (by omega)),ax hk];simp only [za];rw [tK _ h1 h2];simp only [za];rw [Af _ _ _ h1,aq (by omega),En hk]
 rfl
def uj (x:cz) (e:Nat->Bool):Bool:=x.ah.any fun y=>e y.aj.toNat==y.Out
theorem SX (x:cz) (n:Nat) (hn:n<=6) (e:Nat->Bool) (hx:x.ah.length<=6) (ha:∀ k (h:k < x.ah.length),0<=x.ah[k].aj/\x.ah[k].aj < n):
 Rb x ((List.range n).map e)=some (!uj x e):=by
 unfold Rb;rw [dY x.ah (fun y=>bif e y.aj.toNat==y.Out then some false else none) ?hn () ?h0 ?h ?he]
 case hn=>unfold fuel;omega
 case h0=>rfl
 case he=>
  try dsimp only
  rw [aG (bg (by omega))]
 case h=>
  intro k hk;try dsimp only
  obtain ⟨h1,h2⟩:=ha k hk;rw [aK (bw (by omega)),ax hk];simp only [za];obtain ⟨h3,h4⟩:=kL (l:=(List.range n).map e) h1 (by simpa using h2);rw [aG (by simp;omega),h4];simp only [za,zay,zbi];rw [aq (by omega)]
  cases e x.ah[k].aj.toNat==x.ah[k].Out<;>rfl
 rw [er];unfold uj
 cases x.ah.any fun y=>e y.aj.toNat==y.Out<;>rfl
def Qd (s:af) (x:cz):Bool:=x.ah.any fun y=>decide (y.aj≥s.U)
theorem Uh {s:af} {x:cz} (h:Qd s x=false):∀ k (h:k < x.ah.length),x.ah[k].aj < s.U:=by
 intro k hk;unfold Qd at h;rw [zbd] at h;have:=h x.ah[k] (zax hk);simp at this;omega
def Hu (s:af) (x:cz) (e:Nat->Bool):Int:=if pC x≠0 then pC x else if Qd s x=true then 6 else if uj x e=true then 14 else 0
theorem yw {α β ρ γ:Type} {body:Int×γ->Option ((Int×γ)⊕(β⊕ρ))} {w:γ} {s0:Int×γ} (l:List α) (f:α->Option ρ) (hn:l.length < fuel) (u:β) (h0:s0=(0,w))
 (h:∀ (k:Nat) (hk:k < l.length),body ((k:Int),w)=some (match f l[k] with | none=> .inl (((k+1:Nat):Int),w) | some r=> .inr (.inr r)))
 (he:body ((l.length:Int),w)=some (.inr (.inl u))):iter body s0=some (match l.findSome? f with | none=> .inl u | some r=> .inr r):=by
 rw [bp (fun k:Nat=>((k:Int),w)) (fun k=>l[k]?.bind f) l.length hn u (by rw [h0];rfl) (fun k hk _=>by
  have e:l[k]?.bind f=f l[k]:=by rw [za1 hk];rfl
  rw [e];exact h k hk) (fun _=>he),qw]
 try (cases l.findSome? f<;>rfl)
theorem Sm (s:af) (x:cz) (e:Nat->Bool):QE s x (cv e)=some (Hu s x e):=by
 unfold QE Hu;rw [SW];simp only [za];by_cases h0:pC x=0
 ·have ho:=xN h0;rw [aG (by simpa using h0),if_neg (by simpa using h0)];have hlen:=ho.le;rw [yw (w:=cv e) x.ah (fun y=>bif decide (y.aj≥s.U) then some 6 else none) ?hn (cv e) ?h0 ?h ?he]
  case hn=>unfold fuel;omega
  case h0=>rfl
  case he=>
   try dsimp only
   rw [aG (bg (by omega))]
  case h=>
   intro k hk;try dsimp only
   rw [aK (bw (by omega)),ax hk];simp only [za];rw [aq (by omega)]
   cases decide (x.ah[k].aj≥s.U)<;>rfl
  rw [er];unfold Qd
  cases hf:x.ah.any fun y=>decide (y.aj≥s.U) with
  | true=>rfl
  | false=>
   simp only [cond_false,za,Sum.elim_inl,za9,if_false];rw [yw (w:=cv e) x.ah (fun y=>bif e y.aj.toNat==y.Out then some 14 else none) ?hn (cv e) ?h0 ?h ?he]
   case hn=>unfold fuel;omega
   case h0=>rfl
   case he=>
    try dsimp only
    rw [aG (bg (by omega))]
   case h=>
    intro k hk;try dsimp only
    obtain ⟨h1,h2⟩:=ho.act k hk;rw [aK (bw (by omega)),ax hk];simp only [za];rw [tK _ h1 h2,aq (by omega)];simp only [za]
    cases e x.ah[k].aj.toNat==x.ah[k].Out<;>rfl
   rw [er];unfold uj
   cases x.ah.any fun y=>e y.aj.toNat==y.Out<;>rfl
 ·rw [aK (by simpa using h0),if_pos h0]
def ends (s:af) (k:Nat):Nat->Bool:=(s.Steps.take k).foldl (fun e x=>o7 x.ah e) (fun _=>false)
theorem iw {s:af} {k:Nat} (h:k < s.Steps.length):ends s (k+1)=o7 s.Steps[k].ah (ends s k):=by
 unfold ends;rw [zb8,za1 h,List.foldl_append];rfl
def Qa (l:List bS) (e:Nat->Bool):Nat->Bool:=l.foldl (fun e y=>fun a=>if y.aj=(a:Int) then true else e a) e
def fD (s:af) (k:Nat):Nat->Bool:=(s.Steps.take k).foldl (fun e x=>Qa x.ah e) (fun _=>false)
theorem ye {s:af} {k:Nat} (h:k < s.Steps.length):fD s (k+1)=Qa s.Steps[k].ah (fD s k):=by
 unfold fD;rw [zb8,za1 h,List.foldl_append];rfl
def nv (s:af) (k:Nat):Option Int:=match s.Steps[k]? with
 | none=>none
 | some x=>if Hu s x (ends s k)≠0 then some (Hu s x (ends s k)) else none
theorem oJ {s:af} {k:Nat} {r:Int} (hk:k < s.Steps.length) (h:Hu s s.Steps[k] (ends s k)=r) (hr:r≠0):nv s k=some r:=by
 unfold nv;rw [za1 hk];dsimp only;rw [h,if_pos hr]
theorem Ae {s:af} {k:Nat} (hk:k < s.Steps.length) (h:Hu s s.Steps[k] (ends s k)=0):nv s k=none:=by
 unfold nv;rw [za1 hk];dsimp only;rw [h,if_neg (by simp)]
structure MO (s:af) (x:cz):Prop where
 ok:gE x
 Qd:∀ k (h:k < x.ah.length),x.ah[k].aj < s.U
theorem oC {s:af} {k:Nat} (hk:k < s.Steps.length) (h:nv s k=none):MO s s.Steps[k]/\uj s.Steps[k] (ends s k)=false:=by
 unfold nv at h;rw [za1 hk] at h;dsimp only at h;by_cases h0:Hu s s.Steps[k] (ends s k)≠0
 ·rw [if_pos h0] at h;simp at h
 ·have h1:Hu s s.Steps[k] (ends s k)=0:=by simpa using h0
  unfold Hu at h1;split at h1
  ·rename_i h2;exact (h2 h1).elim
  ·split at h1
   ·omega
   ·split at h1
    ·omega
    ·rename_i a b c;exact ⟨⟨xN (by simpa using a),Uh (by simpa using b)⟩,by simpa using c⟩
def way (x:cz) (a:Int):Int:=match x.ah.findSome? (fun y=>bif y.aj==a then some (if y.Out then (1:Int) else -1) else none) with | some r=>r | none=>0
def Bf (x:cz) (a:Int):Bool:=x.ah.any fun y=>y.aj==a
theorem SY (x:cz) (a:Int) (hx:x.ah.length<=9223372036854775807):Rc x a=some (way x a):=by
 unfold Rc way;rw [dY x.ah (fun y=>bif y.aj==a then some (if y.Out then (1:Int) else -1) else none) ?hn () ?h0 ?h ?he]
 case hn=>unfold fuel;omega
 case h0=>rfl
 case he=>
  try dsimp only
  rw [aG (bg (by omega))]
 case h=>
  intro k hk;try dsimp only
  rw [aK (bw (by omega)),ax hk];simp only [za];rw [aq (by omega)]
  cases x.ah[k].aj==a<;>cases x.ah[k].Out<;>rfl
 cases x.ah.findSome? (fun y=>bif y.aj==a then some (if y.Out then (1:Int) else -1) else none)<;>rfl
theorem Xt (x:cz) (a:Int):(way x a !=0)=Bf x a:=by
 unfold way Bf;induction x.ah with
 | nil=>rfl
 | cons y l ih=>
  rw [zaY,zc1]
  cases h:y.aj==a with
  | true=>cases y.Out<;>rfl
  | false=>simpa using ih
theorem Xu (l:List bS) (e:Nat->Bool) (a:Nat):Qa l e a=(e a||l.any fun y=>y.aj==(a:Int)):=by
 induction l generalizing e with
 | nil=>simp [Qa]
 | cons y l ih=>
  have:Qa (y::l) e=Qa l (fun a:Nat=>if y.aj=(a:Int) then true else e a):=rfl;rw [this,ih,zc1];by_cases h:y.aj=(a:Int)
  ·simp [h]
  ·have hb:(y.aj==(a:Int))=false:=by simpa using h
   rw [hb,if_neg h,zbN]
theorem DC (s:af) (a:Nat):∀ k,k<=s.Steps.length->fD s k a=(s.Steps.take k).any fun x=>Bf x a:=by
 intro k;induction k with
 | zero=>intro _;simp [fD]
 | succ k ih=>
  intro hk;rw [ye (by omega),Xu,ih (by omega),zb8,za1 (by omega),List.any_append];simp [Bf]
theorem W7 (s:af) (a:Int) (hs:s.Steps.length<=9223372036854775807) (hx:∀ x∈s.Steps,x.ah.length<=9223372036854775807):m92 s a=some (s.Steps.any fun x=>Bf x a):=by
 unfold m92;rw [dY s.Steps (fun x=>bif Bf x a then some true else none) ?hn () ?h0 ?h ?he]
 case hn=>unfold fuel;omega
 case h0=>rfl
 case he=>
  try dsimp only
  rw [aG (bg (by omega))]
 case h=>
  intro k hk;try dsimp only
  rw [aK (bw (by omega)),ax hk];simp only [za];rw [SY _ _ (hx _ (zax hk)),aq (by omega)];simp only [za,Xt]
  cases Bf s.Steps[k] a<;>rfl
 rw [er]
 cases s.Steps.any fun x=>Bf x a<;>rfl
theorem OV {s:af} {a:Nat} (ha:s.U<=a):∀ k,k<=s.Steps.length->(∀ j,j < k->nv s j=none)->ends s k a=false:=by
 intro k;induction k with
 | zero=>intro _ _;simp [ends]
 | succ k ih=>
  intro hk hj;have h1:=ih (by omega) (fun j hj'=>hj j (by omega));obtain ⟨h2,_⟩:=oC (show k < s.Steps.length by omega) (hj k (by omega));rw [iw (by omega)];have key:∀ l:List bS,(∀ y∈l,y.aj < s.U)->∀ e:Nat->Bool,o7 l e a=e a:=by
   intro l;induction l with
   | nil=>intro _ e;rfl
   | cons y l ihl=>
    intro hl e;have:o7 (y::l) e=o7 l (fun a:Nat=>if y.aj=(a:Int) then y.Out else e a):=rfl;rw [this,ihl (fun z hz=>hl z (by simp [hz]))];have:=hl y (by simp);rw [if_neg (by omega)]
  rw [key _ ?_]
  ·exact h1
  ·intro y hy;obtain ⟨i,hi,rfl⟩:=zaE hy;exact h2.Qd i hi
def yO (s:af):Int:=
 if s.U < 1\/6 < s.U then 2 else if s.Steps.length=0 then 13 else if 64 < s.Steps.length then 5 else
 match first s.Steps.length (nv s) with
 | some r=>r
 | none=>if (List.range s.U.toNat).any (ends s s.Steps.length)=true then 9 else if (List.range s.U.toNat).all (fD s s.Steps.length)=true then 0 else 13
def Vx (s:af):Int:=match first s.Steps.length (nv s) with
 | some r=>r
 | none=>if (List.range s.U.toNat).any (ends s s.Steps.length)=true then 9 else 0
theorem W6 (s:af) (h1:1<=s.U) (h6:s.U<=6) (hs:s.Steps.length<=64):m91 s=some (Vx s):=by
 unfold m91 Vx;have hmk:iD 1 s.U false=some (List.replicate s.U.toNat false):=by
  unfold iD;rw [if_pos ⟨by omega,by omega,by omega⟩]
 rw [hmk];simp only [za];have hA:s.U.toNat<=6:=by omega
 rw [bp (fun k:Nat=>((List.range s.U.toNat).map (ends s k),(k:Int))) (nv s) s.Steps.length ?hn ((List.range s.U.toNat).map (ends s s.Steps.length)) ?h0 ?h ?he]
 case hn=>unfold fuel;omega
 case h0=>
  have:(List.range s.U.toNat).map (ends s 0)=List.replicate s.U.toNat false:=by
   apply zb4
   ·simp
   ·intro i h1 h2;simp [ends]
  rw [this];rfl
 case he=>
  intro _;try dsimp only
  rw [aG (bg (by omega))]
 case h=>
  intro k hk hj;try dsimp only
  rw [aK (bw (by omega)),ax hk];simp only [za];rw [SU];simp only [za];by_cases e0:pC s.Steps[k]=0
  ·have ho:=xN e0;have hle:=ho.le;rw [aG (by simpa using e0)];rw [dY s.Steps[k].ah (fun y=>bif decide (y.aj≥s.U) then some (.inr (.inr 6)) else none) ?hn () ?h0 ?h ?he]
   case hn=>unfold fuel;omega
   case h0=>rfl
   case he=>
    try dsimp only
    rw [aG (bg (by omega))]
   case h=>
    intro i hi;try dsimp only
    rw [aK (bw (by omega)),ax hi];simp only [za];rw [aq (by omega)]
    cases decide (s.Steps[k].ah[i].aj≥s.U)<;>rfl
   rw [er];have YH:(s.Steps[k].ah.any fun y=>decide (y.aj≥s.U))=Qd s s.Steps[k]:=rfl;rw [YH]
   cases hf:Qd s s.Steps[k] with
   | true=>
    rw [oJ hk (r:=6) (by unfold Hu;rw [if_neg (by simpa using e0),if_pos hf]) (by decide)];rfl
   | false=>
    have Vy:=Uh hf;have ha:∀ i (h:i < s.Steps[k].ah.length),0<=s.Steps[k].ah[i].aj/\s.Steps[k].ah[i].aj < (s.U.toNat:Int):=fun i hi=>⟨(ho.act i hi).1,by have:=Vy i hi;omega⟩
    simp only [cond_false,za,Sum.elim_inl,za9,if_false];rw [SX _ _ hA _ ho.le ha];simp only [za,Bool.not_not]
    cases hc:uj s.Steps[k] (ends s k) with
    | true=>
     rw [oJ hk (r:=14) (by unfold Hu;rw [if_neg (by simpa using e0),if_neg (by simp [hf]),if_pos hc]) (by decide)];rfl
    | false=>
     rw [Ae hk (by unfold Hu;rw [if_neg (by simpa using e0),if_neg (by simp [hf]),if_neg (by simp [hc])])];simp only [cond_false];rw [I1 _ _ hA _ ho.le ha,aq (by omega),iw hk];rfl
  ·rw [aK (by simpa using e0),oJ hk (by unfold Hu;rw [if_pos e0]) e0]
 cases afj:first s.Steps.length (nv s) with
 | some r=>rfl
 | none=>
  simp only [za,Sum.elim_inl];rw [dY (List.range s.U.toNat) (fun a=>bif ends s s.Steps.length a then some 9 else none) ?hn () ?h0 ?h ?he]
  case hn=>unfold fuel;simp;omega
  case h0=>rfl
  case he=>
   try dsimp only
   rw [aG (bg (by simp;omega))]
  case h=>
   intro k hk;have hk':k < s.U.toNat:=by simpa using hk
   try dsimp only
   rw [aK (bw (by omega)),ax (by simpa using hk)];simp only [za,zay,zbi];rw [aq (by omega)]
   cases ends s s.Steps.length k<;>rfl
  rw [er]
  cases (List.range s.U.toNat).any (ends s s.Steps.length)<;>rfl
end ck
end
section
namespace ck
open Go Go.Pl
def Small (s:af):Prop:=s.Steps.length<=9223372036854775807/\∀ x∈s.Steps,x.ah.length<=9223372036854775807
theorem W5 (s:af) (hs:Small s):m49 s=some (yO s):=by
 unfold m49 yO;rw [Vw];simp only [za];by_cases h1:s.U < 1\/6 < s.U
 ·rw [aK (by simp only [zat,decide_eq_true_eq];omega),if_pos h1]
 rw [aG (by simp only [zbW,decide_eq_false_iff_not];omega),if_neg h1];by_cases h2:s.Steps.length=0
 ·rw [aK (by simpa using h2),if_pos h2]
 rw [aG (by simpa using h2),if_neg h2];by_cases h3:64 < s.Steps.length
 ·rw [aK (by simp;omega),if_pos h3]
 rw [aG (by simp;omega),if_neg h3,W6 s (by omega) (by omega) (by omega)];simp only [za];unfold Vx
 cases hf:first s.Steps.length (nv s) with
 | some r=>
  have hr:r≠0:=by
   unfold first at hf
   obtain ⟨k,_,hk⟩:=zae hf;unfold nv at hk;split at hk
   ·simp at hk
   ·split at hk
    ·rename_i h;injection hk with hk;rw [<-hk];exact h
    ·simp at hk
  simp only;rw [aK (by simpa using hr)]
 | none=>
  simp only;by_cases h9:(List.range s.U.toNat).any (ends s s.Steps.length)=true
  ·rw [if_pos h9,if_pos h9];rfl
  rw [if_neg h9,if_neg h9,aG (by rfl)];rw [dY (List.range s.U.toNat) (fun a=>bif !fD s s.Steps.length a then some 13 else none) ?hn () ?h0 ?h ?he]
  case hn=>unfold fuel;simp;omega
  case h0=>rfl
  case he=>
   try dsimp only
   rw [aG (bg (by simp;omega))]
  case h=>
   intro k hk;have hk':k < s.U.toNat:=by simpa using hk
   try dsimp only
   rw [aK (bw (by omega)),W7 s _ hs.1 hs.2];simp only [za,zbi];rw [aq (by omega),DC s k _ (za7 _),zah (za7 _)]
   cases s.Steps.any fun x=>Bf x (k:Int)<;>rfl
  rw [er];have:(List.range s.U.toNat).any (fun a=> !fD s s.Steps.length a)= !(List.range s.U.toNat).all (fD s s.Steps.length):=by
   rw [List.not_all_eq_any_not]
  rw [this]
  cases (List.range s.U.toNat).all (fD s s.Steps.length)<;>rfl
theorem OU {l:List bS} {k:Nat} (h:k < l.length) (e:Nat->Bool):Qa (l.take (k+1)) e=fun a:Nat=>if l[k].aj=(a:Int) then true else Qa (l.take k) e a:=by
 unfold Qa;rw [zb8,za1 h,List.foldl_append];rfl
theorem Sl (l:List Bool) (hl:l.length<=6):QF l false=some (l.any fun b=>b==false):=by
 unfold QF U7;rw [bp (fun k:Nat=>(k:Int)) (fun k=>match l[k]? with | some b=>bif b==false then some (k:Int) else none | none=>none) l.length ?hn () ?h0 ?h ?he]
 case hn=>unfold fuel;omega
 case h0=>rfl
 case he=>
  intro _;try dsimp only
  rw [aG (bg (by omega))]
 case h=>
  intro k hk _;try dsimp only
  rw [aK (bw (by omega)),ax hk,za1 hk];simp only [za];rw [aq (by omega)]
  cases l[k]<;>rfl
 cases hf:first l.length (fun k=>match l[k]? with | some b=>bif b==false then some (k:Int) else none | none=>none) with
 | none=>
  rw [bC] at hf;have:(l.any fun b=>b==false)=false:=by
   rw [zbd];intro b hb;obtain ⟨k,hk,rfl⟩:=zaE hb;have:=hf k hk;rw [za1 hk] at this;dsimp only at this;intro hc;rw [hc] at this;simp at this
  rw [this];rfl
 | some r=>
  unfold first at hf
  obtain ⟨k,hk,hr⟩:=zae hf;have hk':k < l.length:=by simpa using hk
  rw [za1 hk'] at hr;dsimp only at hr
  cases hb:l[k]==false with
  | false=>rw [hb] at hr;simp at hr
  | true=>
   rw [hb] at hr;simp only [cond_true,za2] at hr;have:(l.any fun b=>b==false)=true:=by
    rw [zbq];exact ⟨l[k],zax hk',hb⟩
   rw [this];subst hr;simp only [za,Sum.elim_inr];simp
theorem M0 (s:af):Yu s=some (yO s):=by
 unfold Yu yO;rw [Vw];simp only [za];by_cases h1:s.U < 1\/6 < s.U
 ·rw [aK (by simp only [zat,decide_eq_true_eq];omega),if_pos h1]
 rw [aG (by simp only [zbW,decide_eq_false_iff_not];omega),if_neg h1];by_cases h2:s.Steps.length=0
 ·rw [aK (by simpa using h2),if_pos h2]
 rw [aG (by simpa using h2),if_neg h2];by_cases h3:64 < s.Steps.length
 ·rw [aK (by simp;omega),if_pos h3]
 rw [aG (by simp;omega),if_neg h3];rw [bp (fun k:Nat=>((k:Int),cv (ends s k),cv (fD s k))) (nv s) s.Steps.length ?hn (cv (ends s s.Steps.length),cv (fD s s.Steps.length)) ?h0 ?h ?he]
 case hn=>unfold fuel;omega
 case h0=>rfl
 case he=>
  intro _;try dsimp only
  rw [aG (bg (by omega))]
 case h=>
  intro k hk hj;try dsimp only
  rw [aK (bw (by omega)),ax hk];simp only [za];rw [Sm];simp only [za];by_cases e0:Hu s s.Steps[k] (ends s k)=0
  ·have hg:=Ae hk e0;obtain ⟨h4,_⟩:=oC hk hg;have hle:=h4.ok.le;rw [aG (by simpa using e0),hg,IP _ _ h4.ok.le h4.ok.act];simp only [za];rw [aT (fun i:Nat=>((i:Int),cv (o7 s.Steps[k].ah (ends s k)),cv (Qa (s.Steps[k].ah.take i) (fD s k)))) s.Steps[k].ah.length ?hn (cv (o7 s.Steps[k].ah (ends s k)),cv (fD s (k+1))) ?h0 ?h ?he]
   case hn=>unfold fuel;omega
   case h0=>rfl
   case he=>
    try dsimp only
    rw [aG (bg (by omega)),zah (za7 _),ye hk]
   case h=>
    intro i hi;try dsimp only
    obtain ⟨h5,h6⟩:=h4.ok.act i hi;rw [aK (bw (by omega)),ax hi];simp only [za];rw [tK _ h5 h6];simp only [za];rw [Af _ _ _ h5,aq (by omega),OU hi]
   simp only [za];rw [aq (by omega),iw hk]
  ·rw [aK (by simpa using e0),oJ hk rfl e0]
 cases hf:first s.Steps.length (nv s) with
 | some r=>rfl
 | none=>
  simp only [za,Sum.elim_inl];have Vy:∀ a:Nat,s.U<=a->ends s s.Steps.length a=false:=fun a ha=>OV ha _ (za7 _) (fun j hj=>(bC.1 hf) j hj)
  have he:((cv (ends s s.Steps.length)).1==(eB.rep 6 false).1)= !(List.range s.U.toNat).any (ends s s.Steps.length):=by
   have hz:((cv (ends s s.Steps.length)).1=(eB.rep 6 false).1)↔(List.range s.U.toNat).any (ends s s.Steps.length)=false:=by
    rw [zbd];constructor
    ·intro h a ha;have Uy:a < s.U.toNat:=zac.1 ha;have:=congrArg (fun l=>l[a]?) h;have h6:a < 6:=by omega
     have h7:(cv (ends s s.Steps.length)).1[a]?=some (ends s s.Steps.length a):=by
      simp only [cv,zav,List.getElem?_range h6,zaN]
     have h8:(eB.rep 6 false).1[a]?=some false:=by
      simp only [eB.rep,zbO,if_pos h6]
     simp only [h7,h8,za2] at this;simp [this]
    ·intro h;apply zb4
     ·simp [cv,eB.rep]
     ·intro a h1 h2;simp only [cv,eB.rep,zay,zbi,List.getElem_replicate];by_cases ha:a < s.U.toNat
      ·have:=h a (zac.2 ha);simpa using this
      ·exact Vy a (by omega)
   cases hb:(List.range s.U.toNat).any (ends s s.Steps.length) with
   | false=>rw [hz.2 hb];simp
   | true=>
    rw [zb1,beq_eq_false_iff_ne];intro hc;rw [hz.1 hc] at hb;simp at hb
  rw [show ([false,false,false,false,false,false]:List Bool)=(eB.rep 6 false).1 from rfl,he];by_cases h9:(List.range s.U.toNat).any (ends s s.Steps.length)=true
  ·rw [if_pos h9,h9];rfl
  ·rw [if_neg h9];simp only [Bool.not_eq_true] at h9;rw [h9];have uL:mj (cv (fD s s.Steps.length)).1 none (some s.U)=some ((List.range s.U.toNat).map (fD s s.Steps.length)):=by
    unfold mj;rw [if_pos ⟨by simp,by simp;omega,by simp [cv];omega⟩];congr 1;apply zb4
    ·simp [cv];omega
    ·intro i h1 h2;simp [cv]
   simp only [Bool.not_false,bne_self_eq_false,cond_false];rw [uL];have hl:List.take (s.U.toNat - 0) (List.drop 0 (cv (fD s s.Steps.length)).1)=(List.range s.U.toNat).map (fD s s.Steps.length):=by
    apply zb4
    ·simp [cv];omega
    ·intro i h1 h2;simp [cv]
   simp only [za];rw [if_pos (by omega),hl,Sl _ (by simp;omega)];simp only [za,List.any_map];have:(List.range s.U.toNat).any ((fun b=>b==false) ∘ fD s s.Steps.length)= !(List.range s.U.toNat).all (fD s s.Steps.length):=by
    rw [List.not_all_eq_any_not];congr 1;funext a
    simp
   rw [this]
   cases (List.range s.U.toNat).all (fD s s.Steps.length)<;>rfl
end ck
end
section
namespace ck
open Go Go.Pl
def cnt (s:af) (k:Nat):Nat:=((s.Steps.take k).filter (fun x=>x.cX !=0)).length
def jy (s:af) (n:Int) (k:Nat):Int:=match s.Steps[k]? with
 | some x=>if x.cX=0 then -1 else n+(cnt s k:Int)
 | none=>0
def me (s:af) (n:Int) (k:Nat):List Int:=(List.range k).map (jy s n)
theorem iR {s:af} {k:Nat} (h:k < s.Steps.length):cnt s (k+1)=if s.Steps[k].cX=0 then cnt s k else cnt s k+1:=by
 unfold cnt;rw [zb8,za1 h,List.filter_append];by_cases hw:s.Steps[k].cX=0
 ·rw [if_pos hw];simp [hw]
 ·rw [if_neg hw];simp [hw]
theorem BD (s:af) (k:Nat):cnt s k<=s.Steps.length:=by
 unfold cnt;exact zaI (List.length_filter_le _ _) (by rw [zbc];omega)
theorem sk {s:af} {n:Int} {k:Nat}:me s n (k+1)=me s n k++[jy s n k]:=by
 unfold me;rw [zc2,zal];rfl
theorem S0 (s:af) (n:Int) (hs:s.Steps.length<=64) (h0:0<=n) (h1:n < 1000000):Re s n=some ⟨s,me s n s.Steps.length⟩:=by
 unfold Re;rw [aT (fun k:Nat=>(n+(cnt s k:Int),(k:Int),(0:Int),([]:List cz),([]:List Int),s.U,s.Steps,me s n k)) s.Steps.length ?hn ((0:Int),([]:List cz),([]:List Int),s.U,s.Steps,me s n s.Steps.length) ?h0 ?h ?he]
 case hn=>unfold fuel;omega
 case h0=>simp [cnt,me]
 case he=>
  try dsimp only
  rw [aG (bg (by omega))]
 case h=>
  intro k hk;try dsimp only
  have hc:=BD s k;have hlen:(me s n k).length=k:=by simp [me]
  rw [aK (bw (by omega)),ax hk];simp only [za];rw [aM (by simp [hlen];omega) (by simp [hlen];omega),aM (by simp [hlen];omega) (by simp [hlen];omega)];have ht:jy s n k=if s.Steps[k].cX=0 then -1 else n+(cnt s k:Int):=by
   unfold jy;rw [za1 hk]
  by_cases hw:s.Steps[k].cX=0
  ·rw [aK (by simpa using hw)];simp only [za];rw [sk,ht,if_pos hw,iR hk,if_pos hw,aq (by omega)]
  ·rw [aG (by simpa using hw)];simp only [za];rw [sk,ht,if_neg hw,iR hk,if_neg hw,aq (by omega),bA (by omega) (by omega)];rw [show n+(cnt s k:Int)+1=n+((cnt s k+1:Nat):Int) by omega]
 simp only [za]
end ck
end
section
namespace ck
open Go Go.Pl
def mods (f:Int) (k:Nat):List Int:=(List.range k).map fun j:Nat=>f+(j:Int)
theorem Ap {f:Int} {k:Nat}:mods f (k+1)=mods f k++[f+(k:Int)]:=by
 unfold mods;rw [zc2,zal];rfl
def fst (s:af):Int:=2*s.U+1
theorem Xn (s:af) (hs:s.Steps.length<=64) (h0:1<=s.U) (h1:s.U<=6) (hw:∀ x∈s.Steps,0<=x.cX):
 Yv s=some ⟨s,fst s,if s.Steps.length=2 then [fst s+1,fst s] else mods (fst s) s.Steps.length,me s (fst s+(s.Steps.length:Int)) s.Steps.length⟩:=by
 unfold Yv;have e1:aE .i64 (dF .i64 2 s.U) 1=fst s:=by
  have:dF .i64 2 s.U=2*s.U:=by unfold dF;exact wrap_i64 (by omega) (by omega)
  rw [this,bA (by omega) (by omega)];rfl
 have hf:3<=fst s/\fst s<=13:=by unfold fst;omega
 rw [e1,bA (show -9223372036854775808<=fst s+(s.Steps.length:Int) by omega) (by omega)];rw [aT (fun k:Nat=>(fst s+(s.Steps.length:Int)+(cnt s k:Int),(k:Int),s.U,s.Steps,fst s,mods (fst s) k,me s (fst s+(s.Steps.length:Int)) k)) s.Steps.length ?hn (s.U,s.Steps,fst s,mods (fst s) s.Steps.length,me s (fst s+(s.Steps.length:Int)) s.Steps.length) ?h0 ?h ?he]
 case hn=>unfold fuel;omega
 case h0=>simp [cnt,me,mods]
 case he=>
  try dsimp only
  rw [aG (bg (by omega))]
 case h=>
  intro k hk;try dsimp only
  have hc:=BD s k;have hlen:(me s (fst s+(s.Steps.length:Int)) k).length=k:=by simp [me]
  have YP:(mods (fst s) k).length=k:=by simp [mods]
  rw [aK (bw (by omega)),ax hk];simp only [za];rw [aM (by simp [YP];omega) (by simp [YP];omega),aM (by simp [hlen];omega) (by simp [hlen];omega)];simp only [za];have ht:jy s (fst s+(s.Steps.length:Int)) k=if s.Steps[k].cX=0 then -1 else fst s+(s.Steps.length:Int)+(cnt s k:Int):=by
   unfold jy;rw [za1 hk]
  have hk2:k < (me s (fst s+(s.Steps.length:Int)) k++[-1]).length:=by simp [hlen]
  have hw':=hw _ (zax hk);rw [bA (show -9223372036854775808<=fst s+(k:Int) by omega) (by omega),<-Ap];by_cases hw0:s.Steps[k].cX=0
  ·rw [aG (by simp;omega)];simp only [za];rw [sk,ht,if_pos hw0,iR hk,if_pos hw0,aq (by omega)]
  ·rw [aK (by simp;omega),ax hk2];simp only [za];rw [sk,ht,if_neg hw0,iR hk,if_neg hw0,aq (by omega),bA (by omega) (by omega)];rw [show fst s+(s.Steps.length:Int)+(cnt s k:Int)+1=fst s+(s.Steps.length:Int)+((cnt s k+1:Nat):Int) by omega];have:(me s (fst s+(s.Steps.length:Int)) k++[-1]).set (k:Int).toNat (fst s+(s.Steps.length:Int)+(cnt s k:Int))=me s (fst s+(s.Steps.length:Int)) k++[fst s+(s.Steps.length:Int)+(cnt s k:Int)]:=by
    rw [show (k:Int).toNat=(me s (fst s+(s.Steps.length:Int)) k).length+0 by simp [hlen],List.set_append_right _ _ (by omega)];simp
   rw [this]
 simp only [za];by_cases h2:s.Steps.length=2
 ·rw [aK (by simp [h2]),if_pos h2,bA (by omega) (by omega)];rfl
 ·rw [aG (by simp;omega),if_neg h2];rfl
end ck
end
section
namespace ck
open Go Go.Pl
theorem fst_eq {s:af} (h0:1<=s.U) (h1:s.U<=6):aE .i64 (dF .i64 2 s.U) 1=fst s:=by
 have:dF .i64 2 s.U=2*s.U:=by unfold dF;exact wrap_i64 (by omega) (by omega)
 rw [this,bA (by omega) (by omega)];rfl
theorem fQ {s:af} (h0:1<=s.U) (h1:s.U<=6):3<=fst s/\fst s<=13:=by unfold fst;omega
theorem XB (s:af) (hs:s.Steps.length<=64) (h0:1<=s.U) (h1:s.U<=6):Qt s=some ⟨s,me s (fst s+(s.Steps.length:Int)) s.Steps.length⟩:=by
 have hf:=fQ h0 h1;unfold Qt KG;rw [fst_eq h0 h1];simp only [za];rw [bA (by omega) (by omega),S0 s _ hs (by omega) (by omega)];rfl
theorem XC (s:af) (hs:s.Steps.length<=64) (h0:1<=s.U) (h1:s.U<=6):Tu s=some (if s.Steps.length=2 then [fst s+1,fst s] else mods (fst s) s.Steps.length):=by
 have hf:=fQ h0 h1;unfold Tu KG;rw [fst_eq h0 h1];simp only [za];by_cases h2:s.Steps.length=2
 ·rw [aK (by simp [h2]),if_pos h2,bA (by omega) (by omega)]
 ·rw [aG (by simp;omega),if_neg h2];rw [aT (fun k:Nat=>((k:Int),mods (fst s) k)) s.Steps.length ?hn (mods (fst s) s.Steps.length) ?h0 ?h ?he]
  case hn=>unfold fuel;omega
  case h0=>simp [mods]
  case he=>
   try dsimp only
   rw [aG (bg (by omega))]
  case h=>
   intro k hk;try dsimp only
   have YP:(mods (fst s) k).length=k:=by simp [mods]
   rw [aK (bw (by omega)),aM (by simp [YP];omega) (by simp [YP];omega)];simp only [za];rw [aq (by omega),bA (by omega) (by omega),Ap]
  rfl
theorem B2 {s:af} {n:Int} {k:Nat} (hk:k < s.Steps.length):jy s n k=if s.Steps[k].cX=0 then -1 else n+(cnt s k:Int):=by
 unfold jy;rw [za1 hk]
theorem kQ {s:af} {n:Int} {k:Nat} (hk:k < s.Steps.length) (hn:0<=n):decide (jy s n k≥0)=(s.Steps[k].cX !=0):=by
 have e:=B2 (n:=n) hk;by_cases hw:s.Steps[k].cX=0
 ·rw [if_pos hw] at e;have:decide (jy s n k≥0)=false:=by simp only [decide_eq_false_iff_not];omega
  rw [this];simp [hw]
 ·rw [if_neg hw] at e;have:decide (jy s n k≥0)=true:=by simp only [decide_eq_true_eq];omega
  rw [this];simp [hw]
theorem XQ (s:af) (n:Int) (hn:0<=n) (hs:s.Steps.length<=64):m75 ⟨s,me s n s.Steps.length⟩=some (cnt s s.Steps.length:Int):=by
 unfold m75;have hlen:(me s n s.Steps.length).length=s.Steps.length:=by simp [me]
 rw [aT (fun k:Nat=>((cnt s k:Int),(k:Int))) s.Steps.length ?hn (cnt s s.Steps.length:Int) ?h0 ?h ?he]
 case hn=>unfold fuel;omega
 case h0=>simp [cnt]
 case he=>
  try dsimp only
  rw [aG (bg (by omega))]
 case h=>
  intro k hk;try dsimp only
  have hc:=BD s k;have hg:(me s n s.Steps.length)[k]'(by omega)=jy s n k:=by simp [me]
  rw [aK (bw (by omega)),ax (show k < (me s n s.Steps.length).length by omega),hg];simp only [za];rw [kQ hk hn];by_cases hw:s.Steps[k].cX=0
  ·rw [aG (by simp [hw]),iR hk,if_pos hw,aq (by omega)];rfl
  ·rw [aK (by simpa using hw),iR hk,if_neg hw,aq (by omega),aq (by omega)];rfl
 rfl
end ck
end
section
namespace ck
open Go Go.Pl
def bq (n:Int):ai:=⟨1,n,[]⟩
def zu (x:bS):ai:=bq (2*x.aj+if x.Out then 1 else 0)
def CF (l:List bS) (k:Nat):List ai:=(l.take k).map zu
theorem xz {l:List bS} {k:Nat} (h:k < l.length):CF l (k+1)=CF l k++[zu l[k]]:=by
 unfold CF;rw [zb8,za1 h,zal];rfl
theorem BU (l:List bS):CF l l.length=l.map zu:=by unfold CF;rw [zbr]
theorem lR (n:Int):uQ n=some (bq n):=rfl
theorem lS (n:Int):y6 n=some (bq n):=rfl
theorem IK (x:cz) (h:gE x):Lj x=some (x.ah.map zu):=by
 have hle:=h.le;unfold Lj;rw [aT (fun k:Nat=>((k:Int),CF x.ah k)) x.ah.length ?hn (x.ah.map zu) ?h0 ?h ?he]
 case hn=>unfold fuel;omega
 case h0=>simp [CF]
 case he=>
  try dsimp only
  rw [aG (bg (by omega)),BU]
 case h=>
  intro k hk;try dsimp only
  obtain ⟨h1,h2⟩:=h.act k hk;have hl:(CF x.ah k).length=k:=by simp [CF];omega
  have e0:dF .i64 2 x.ah[k].aj=2*x.ah[k].aj:=by unfold dF;exact wrap_i64 (by omega) (by omega)
  rw [aK (bw (by omega)),ax hk];simp only [za,lS,e0];rw [xz hk,aq (by omega)]
  cases ho:x.ah[k].Out with
  | true=>
   simp only [cond_true,za];rw [bA (by omega) (by omega),aM (by simp [hl];omega) (by simp [hl];omega)];simp [zu,ho,bq]
  | false=>
   simp only [cond_false,za];rw [aM (by simp [hl];omega) (by simp [hl];omega)];simp [zu,ho,bq]
 rfl
theorem rV (a:Int) (l:List ai):A8 a l=uT a l:=by
 unfold A8 uT;rfl
end ck
end
