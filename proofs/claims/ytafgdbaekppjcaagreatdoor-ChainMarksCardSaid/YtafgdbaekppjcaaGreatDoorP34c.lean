/- Parts of my machine and its laws, joined: P34c P34d P34e P34f P34g P34h P34i P34j P34k P34l P34m. No condition. -/
import Derived.Test.YtafgdbaekppjcaaGreatDoorP33h
import Derived.KernelRfl
set_option linter.unusedSectionVars false
set_option linter.unusedVariables false
set_option linter.unusedSimpArgs false
section
namespace cQ
open Go Go.Pl
set_option linter.unusedVariables false
set_option linter.unusedSimpArgs false
mutual
def gz:ah->Nat
 | ⟨_,_,l⟩=>1+nZ l
def nZ:List ah->Nat
 | []=>0
 | x::l=>max (gz x) (nZ l)
end
theorem iC (x:ah):gz x=1+nZ x.au:=by cases x;rw [gz]
theorem g7 (x:ah):1<=gz x:=by rw [iC];omega
theorem fj {d:Nat}:∀ (l:List ah),nZ l<=d↔∀ (i:Nat) (h:i < l.length),gz l[i]<=d
 | []=>⟨fun _ i h=>by simp at h,fun _=>by simp [nZ]⟩
 | x::l=>by
  rw [nZ,Nat.max_le,fj l];constructor
  ·rintro ⟨h1,h2⟩ i hi
   cases i with
   | zero=>exact h1
   | succ i=>exact h2 i (by simpa using hi)
  ·intro h;exact ⟨h 0 (by simp),fun i hi=>h (i+1) (by simpa using hi)⟩
theorem m9:∀ (l:List ah) (i:Nat) (h:i < l.length),tc l[i]<=eH l
 | x::l,0,h=>by simp [eH]
 | x::l,i+1,h=>by
  have:=m9 l i (by simpa using h);simp only [eH,List.getElem_cons_succ];omega
theorem um (l:List ah):l.length<=eH l:=by have:=qi l l.length (Nat.le_refl _);rwa [List.take_length] at this
theorem EU:∀ (k:Nat) (x:ah) (d:Nat),d<=16->tc x<=256->d < k->He k x (d:Int)=some (decide (gz x<=d))
 | 0,x,d,_,_,h=>by omega
 | k+1,x,d,hd,hs,hk=>by
  show QA (He k) x d=_;unfold QA;have hp:=g7 x;have hz:=mC x;have hl:=um x.au;by_cases h0:d=0
  ·subst h0;rw [bO (by omega),cond_true];congr 1;exact (decide_eq_false (by omega)).symm
  rw [bF (by omega),cond_false];by_cases h1:d=1
  ·subst h1;rw [show (((1:Nat):Int)==1)=true from rfl,cond_true];congr 1;rw [Bool.eq_iff_iff,beq_iff_eq,decide_eq_true_eq,iC];constructor
   ·intro h;have:x.au=[]:=List.eq_nil_of_length_eq_zero (by omega);rw [this];simp [nZ]
   ·intro h;have:nZ x.au<=0:=by omega
    cases hA:x.au with
    | nil=>rfl
    | cons y l=>
     rw [hA,nZ] at this;have:=g7 y;omega
  rw [show (((d:Nat):Int)==1)=false by simp;omega,cond_false];have e1:dF .i64 (d:Int) 1=((d - 1:Nat):Int):=by rw [ef (by omega) (by omega)];omega
  simp only [e1];rw [dJ x.au (fun y=>if gz y<=d - 1 then none else some false) (show x.au.length < 2 ^ 64 by omega) () rfl (fun i hi=>by
   have hg:=m9 x.au i hi;rw [bO (show ((i:Nat):Int) < (x.au.length:Int) by omega),cond_true,aK hi];dsimp only [Option.bind];rw [eta,EU k x.au[i] (d - 1) (by omega) (by omega) (by omega)];dsimp only;by_cases h:gz x.au[i]<=d - 1
   ·rw [decide_eq_true h,if_pos h,Bool.not_true,cond_false,ay (by omega)]
   ·rw [decide_eq_false h,if_neg h,Bool.not_false,cond_true]) (by
   rw [bF (by omega),cond_false])]
  cases hf:x.au.findSome? (fun y=>if gz y<=d - 1 then none else some false) with
  | none=>
   rw [List.findSome?_eq_none_iff] at hf;have:nZ x.au<=d - 1:=(fj _).2 fun i hi=>by
    have:=hf x.au[i] (List.getElem_mem hi);by_cases h:gz x.au[i]<=d - 1
    ·exact h
    ·rw [if_neg h] at this;cases this
   show some true=_;congr 1;exact (decide_eq_true (by rw [iC];omega)).symm
  | some b=>
   obtain ⟨y,hy,hb⟩:=List.exists_of_findSome?_eq_some hf;split at hb
   ·cases hb
   rename_i hn;injection hb with hb;subst hb
   show some false=_;congr 1;refine (decide_eq_false fun h=>hn ?_).symm;obtain ⟨i,hi,rfl⟩:=List.getElem_of_mem hy;exact (fj (d:=d - 1) _).1 (by rw [iC] at h;omega) i hi
theorem u6 (x:ah):WX x=some (decide (tc x<=256/\gz x<=16)):=by
 unfold WX Qj Qk;rw [eta,show (256:Int)=((256:Nat):Int) from rfl,count_eq fuel x 256 (by omega) (show 256 < 2 ^ 64 by omega)];dsimp only [Option.bind];by_cases h:tc x<=256
 ·rw [Mi (by omega),cond_true,show (16:Int)=((16:Nat):Int) from rfl,EU fuel x 16 (by omega) h (show 16 < 2 ^ 64 by omega)];simp [h]
 ·rw [Uu (by omega),cond_false];simp [h]
end cQ
end
section
namespace cQ
open Go Go.Pl
set_option linter.unusedVariables false
set_option linter.unusedSimpArgs false
theorem qo {τ ρ β:Type} {body:Int×τ->Option ((Int×τ)⊕ρ)} {t0:τ} {F:ρ->Option β} {Post:β->Prop} (n:Nat) (hn:n < fuel) (P:Nat->τ->Prop) (Q:ρ->Prop) (h0:P 0 t0)
 (h:∀ (k:Nat) (t:τ),k<=n->P k t->(∃ t',k < n/\body (k,t)=some (.inl (((k+1:Nat):Int),t'))/\P (k+1) t')\/∃ r,body (k,t)=some (.inr r)/\Q r)
 (hF:∀ r,Q r->∃ b,F r=some b/\Post b):∃ b,(iter body (0,t0)).bind F=some b/\Post b:=by
 obtain ⟨r,h1,h2⟩:=F9 n hn P Q h0 h;obtain ⟨b,h3,h4⟩:=hF r h2;exact ⟨b,by rw [h1];exact h3,h4⟩
theorem Bh (l:List ah):eH (l.take l.length)=eH l:=by rw [List.take_length]
abbrev M5:=Int×Int×Bool×Int×Int
def HZ (x:ah) (d c:Nat) (a2 a3:Int) (a4:Bool):M5⊕M5->Prop
 | .inl w=>w.2.2.1=false/\¬ (c+tc x<=256/\d+gz x<=17)
 | .inr w=>w.1=a2/\w.2.1=a3/\w.2.2.1=a4/\w.2.2.2.1=((c+tc x:Nat):Int)/\(c+tc x<=256/\d+gz x<=17)
theorem Bi:∀ (k:Nat) (x:ah) (d c:Nat) (a2 a3:Int) (a4:Bool) (a6 a7 a8:Int) (a9:List ah),1<=d->d<=17->c<=256->18<=k+d->
 ∃ r,xg k x d a2 a3 a4 c a6 a7 a8 a9=some r/\HZ x d c a2 a3 a4 r
 | 0,x,d,c,_,_,_,_,_,_,_,h1,h2,h3,h4=>by omega
 | k+1,x,d,c,a2,a3,a4,a6,a7,a8,a9,h1,h2,h3,h4=>by
  show ∃ r,H6 (xg k) x d a2 a3 a4 c a6 a7 a8 a9=some r/\_;unfold H6;have hz:=mC x;have hp:=zC x;have hd:=g7 x;have W2:=iC x;have e1:aO .i64 ((c:Nat):Int) 1=((c+1:Nat):Int):=ay (by omega);simp only [e1];by_cases hc:c+1 > 256
  ·rw [show decide (((c+1:Nat):Int) > 256)=true from decide_eq_true (by omega),cond_true];exact ⟨_,rfl,rfl,by omega⟩
  rw [show decide (((c+1:Nat):Int) > 256)=false from decide_eq_false (by omega),cond_false];dsimp only [Option.bind];by_cases hdd:d > 16
  ·rw [show decide (((d:Nat):Int) > 16)=true from decide_eq_true (by omega),cond_true];exact ⟨_,rfl,rfl,by omega⟩
  rw [show decide (((d:Nat):Int) > 16)=false from decide_eq_false (by omega),cond_false];refine qo 257 (show 257 < 2 ^ 64 by omega) (fun i t=>i<=x.au.length/\t.1=a2/\t.2.1=a3/\t.2.2.1=a4/\t.2.2.2.1=((c+1+eH (x.au.take i):Nat):Int)/\c+1+eH (x.au.take i)<=256/\∀ (j:Nat) (h:j < x.au.length),j < i->d+1+gz x.au[j]<=17)
   (fun r=>match r with
    | .inl w=>HZ x d c a2 a3 a4 (.inr w)
    | .inr w=>HZ x d c a2 a3 a4 w) ⟨Nat.zero_le _,rfl,rfl,rfl,by simp [eH],by simp [eH];omega,fun j _ h=>by omega⟩ ?_ ?_
  ·rintro i ⟨t1,t2,t3,t4,t5⟩ hi ⟨q1,q2,q3,q4,q5,q6,q7⟩;dsimp only at q2 q3 q4 q5;subst q2;subst q3;subst q4;subst q5;dsimp only;by_cases hl:i < x.au.length
   ·rw [bO (show ((i:Nat):Int) < (x.au.length:Int) by omega),cond_true,aK hl];dsimp only;rw [Mi (show ((d:Nat):Int)<=16 by omega),cond_true,eta,ay (show d < 9223372036854775807 by omega)];obtain ⟨r,r1,r2⟩:=Bi k x.au[i] (d+1) (c+1+eH (x.au.take i)) t1 t2 t3 t5 a7 a8 a9 (by omega) (by omega) q6 (by omega);rw [r1];have hT:=rN x.au i hl;have hB:=qi x.au i q1
    cases r with
    | inl w=>
     refine .inr ⟨_,rfl,?_⟩;refine ⟨r2.1,fun hh=>r2.2 ?_⟩;have g1:=zD x.au (i+1);have g2:=(fj (d:=16 - d) x.au).1 (by omega) i hl;omega
    | inr w=>
     obtain ⟨s1,s2,s3,s4,s5,s6⟩:=r2;refine .inl ⟨(w.1,w.2.1,w.2.2.1,w.2.2.2.1,w.2.2.2.2),by omega,by rw [<-ay (show i < 9223372036854775807 by omega)];rfl,by omega,s1,s2,s3,by rw [s4,hT];congr 1;omega,by omega,fun j hj hji=>?_⟩;by_cases e:j=i
     ·subst e;omega
     ·exact q7 j hj (by omega)
   ·have e:i=x.au.length:=by omega
    subst e;rw [bF (by omega),cond_false];refine .inr ⟨_,rfl,rfl,rfl,rfl,?_,?_⟩
    ·show ((c+1+eH (x.au.take x.au.length):Nat):Int)=_;rw [Bh,hz];congr 1;omega
    ·rw [Bh] at q6;have:=(fj (d:=16 - d) x.au).2 fun j hj=>by have:=q7 j hj hj;omega
     omega
  ·intro r hr
   cases r with
   | inl w=>exact ⟨_,rfl,hr⟩
   | inr w=>exact ⟨w,rfl,hr⟩
theorem Dx (x:ah):∃ a b,L6 x=some (a,b,decide (tc x<=256/\gz x<=16)):=by
 unfold L6 HI;rw [eta];obtain ⟨r,h1,h2⟩:=Bi fuel x 1 0 0 0 false 0 x.Op x.Index x.au (by omega) (by omega) (by omega) (show 18<=2 ^ 64+1 by omega);have h1:xg fuel x 1 0 0 false 0 0 x.Op x.Index x.au=some r:=h1;rw [h1]
 cases r with
 | inl w=>
  obtain ⟨h3,h4⟩:=h2;refine ⟨w.1,w.2.1,?_⟩;show some (w.1,w.2.1,w.2.2.1)=_;rw [h3,decide_eq_false (by omega)]
 | inr w=>
  obtain ⟨_,_,_,_,h5,h6⟩:=h2;refine ⟨w.2.2.2.1,w.2.2.2.2,?_⟩;show some (w.2.2.2.1,w.2.2.2.2,true)=_;rw [decide_eq_true (by omega)]
end cQ
end
section
namespace cQ
open Go Go.Pl
set_option linter.unusedVariables false
set_option linter.unusedSimpArgs false
theorem vY {α:Type} (b:Bool) (x y:α):(bif b then some x else some y)=some (bif b then x else y):=by cases b<;>rfl
theorem yd (x:ah) (n:Int):∃ v,Aj x n=some v:=by
 unfold Aj;simp only [vY,Option.bind_some];exact ⟨_,rfl⟩
theorem BN {α β:Type} (f:α->β) (g:Nat->Option α):∀ l:List Nat,l.findSome? (fun j=>(g j).map f)=(l.findSome? g).map f
 | []=>rfl
 | x::l=>by
  rw [List.findSome?_cons,List.findSome?_cons,BN f g l]
  cases g x<;>rfl
theorem Gy {α β:Type} (f:α->β) (g:Nat->Option α) (n:Nat):first n (fun j=>(g j).map f)=(first n g).map f:=BN f g _
theorem I0 {n:Int} (h0:0<=n) (h1:n<=256):∀ (k1 k2:Nat) (x:ah) (d:Nat) (a2 a4 a5:Int) (a6:List ah),tc x<=256->d+gz x<=17->1<=d->18<=k1+d->gz x<=k2->
 ∃ v,oj k2 x n=some v/\ov k1 x d a2 n a4 a5 a6=some (if v=0 then .inr a2 else .inl v)
 | 0,_,x,d,_,_,_,_,_,_,_,_,_=>by have:=g7 x;omega
 | _+1,0,x,d,_,_,_,_,_,_,_,_,_=>by have:=g7 x;omega
 | k1+1,k2+1,x,d,a2,a4,a5,a6,hs,hd,GM,GY,hk2=>by
  have hz:=mC x;have W2:=iC x;have hl:=um x.au;obtain ⟨v,hv⟩:=yd x n;have TS:G5 x n=some v:=by rw [M3 x n h0 h1 (by omega),hv]
  show ∃ v,HA (oj k2) x n=some v/\Dn (ov k1) x d a2 n a4 a5 a6=_;unfold HA Dn;rw [eta,hv,TS];dsimp only [Option.bind];by_cases FJ:v=0
  case neg=>
   rw [show (v !=0)=true from bne_iff_ne.2 FJ,cond_true,cond_true];exact ⟨v,rfl,by rw [if_neg FJ]⟩
  subst FJ;rw [show ((0:Int) !=0)=false from rfl,cond_false,cond_false];have child:∀ (i:Nat) (hi:i < x.au.length),∃ w,oj k2 x.au[i] n=some w/\ov k1 x.au[i] ((d+1:Nat):Int) a2 n a4 a5 a6=some (if w=0 then .inr a2 else .inl w):=fun i hi=>by
   have g1:=m9 x.au i hi;have g2:=(fj (d:=16 - d) x.au).1 (by omega) i hi;have g3:=(fj (d:=k2) x.au).1 (by omega) i hi;exact I0 h0 h1 k1 k2 x.au[i] (d+1) a2 a4 a5 a6 (by omega) (by omega) (by omega) (by omega) g3
  let g:Nat->Option Int:=fun j=>(x.au[j]?).bind fun y=>(oj k2 y n).bind fun w=>if w=0 then none else some w
  have hg:∀ (i:Nat) (hi:i < x.au.length) (w:Int),oj k2 x.au[i] n=some w->g i=if w=0 then none else some w:=fun i hi w hw=>by
   show (x.au[i]?).bind _=_;rw [List.getElem?_eq_getElem hi];show (oj k2 x.au[i] n).bind _=_;rw [hw];rfl
  rw [bn (s0:=(0:Int)) (fun j:Nat=>(j:Int)) g x.au.length (show x.au.length < 2 ^ 64 by omega) () rfl (fun i hi _=>by
   obtain ⟨w,c1,_⟩:=child i hi;rw [hg i hi w c1,bO (show ((i:Nat):Int) < (x.au.length:Int) by omega),cond_true,aK hi];dsimp only;rw [eta,c1];dsimp only;by_cases hw:w=0
   ·subst hw;rw [show ((0:Int) !=0)=false from rfl,cond_false,if_pos rfl,ay (by omega)]
   ·rw [show (w !=0)=true from bne_iff_ne.2 hw,cond_true,if_neg hw]) (fun _=>by rw [bF (by omega),cond_false])]
  rw [bn (s0:=((0:Int),a2)) (fun j:Nat=>((j:Int),a2)) (fun j=>(g j).map (fun w=>(Sum.inl w:Int⊕Int))) x.au.length (show x.au.length < 2 ^ 64 by omega) a2 rfl (fun i hi _=>by
   obtain ⟨w,c1,c2⟩:=child i hi;dsimp only;rw [hg i hi w c1,bO (show ((i:Nat):Int) < (x.au.length:Int) by omega),cond_true,aK hi];dsimp only;rw [Mi (show ((d:Nat):Int)<=16 by omega),cond_true,eta,ay (show d < 9223372036854775807 by omega),c2];by_cases hw:w=0
   ·subst hw;rw [if_pos rfl,if_pos rfl];dsimp only [Sum.elim_inr,Option.map];rw [ay (by omega)]
   ·rw [if_neg hw,if_neg hw];rfl) (fun _=>by dsimp only;rw [bF (by omega),cond_false]),Gy]
  cases hf:first x.au.length g with
  | none=>exact ⟨0,rfl,rfl⟩
  | some w=>
   have hw:w≠0:=by
    rintro rfl;obtain ⟨k,_,hk⟩:=List.exists_of_findSome?_eq_some hf;obtain ⟨y,_,hk⟩:=Option.bind_eq_some_iff.1 hk;obtain ⟨u,_,hk⟩:=Option.bind_eq_some_iff.1 hk;split at hk
    ·cases hk
    ·rename_i hn;injection hk with hk;exact hn hk
   exact ⟨w,rfl,by rw [if_neg hw];rfl⟩
end cQ
end
section
namespace cQ
open Go Go.Pl
set_option linter.unusedVariables false
set_option linter.unusedSimpArgs false
theorem ET (x:ah) (n:Int):G6 x n=tQ x n:=by
 unfold G6 tQ;by_cases h0:n < 0
 ·rw [bO h0,cond_true,cond_true];rfl
 rw [bF h0,cond_false,cond_false];dsimp only [Option.bind];by_cases h1:n > 256
 ·rw [decide_eq_true h1,cond_true,cond_true]
 rw [decide_eq_false h1,cond_false,cond_false,eta,u6];obtain ⟨a,b,hm⟩:=Dx x;rw [hm];dsimp only;by_cases hl:tc x<=256/\gz x<=16
 ·rw [decide_eq_true hl,Bool.not_true,cond_false,cond_false];unfold C9 Hf;obtain ⟨v,h2,h3⟩:=I0 (n:=n) (by omega) (by omega) fuel fuel x 1 0 x.Op x.Index x.au hl.1 (by omega) (by omega) (show 18<=2 ^ 64+1 by omega) (show gz x<=2 ^ 64 by omega);have h3:ov fuel x 1 0 n x.Op x.Index x.au=some (if v=0 then .inr 0 else .inl v):=h3;rw [h2,h3];by_cases hv:v=0
  ·subst hv;rfl
  ·rw [if_neg hv];rfl
 ·rw [decide_eq_false hl,Bool.not_false,cond_true,cond_true]
end cQ
end
section
namespace cQ
open Go Go.Pl
set_option linter.unusedVariables false
set_option linter.unusedSimpArgs false
theorem Jp (c:aA) (h1:1<=c.U) (h6:c.U<=6) (l:Int) (h0:0<=l):LL c l=sM c l:=by
 unfold LL sM tP qM;have e:dw .i64 2 c.U=2*c.U:=iA (by omega) (by omega);rw [e];dsimp only [Option.bind];by_cases hl:l < 2*c.U
 ·rw [bO hl,cond_true,cond_true];have:l=0\/l=1\/l=2\/l=3\/l=4\/l=5\/l=6\/l=7\/l=8\/l=9\/l=10\/l=11:=by omega
  clear hl;rcases this with rfl | rfl | rfl | rfl | rfl | rfl | rfl | rfl | rfl | rfl | rfl | rfl<;>(clear h0 h1 h6 e;show _=_;first | rfl | decide | (show (_:Option (List UInt8))=_;kernel_rfl))
 ·rw [bF hl,cond_false,cond_false]
end cQ
end
section
namespace cQ
open Go Go.Pl
set_option linter.unusedVariables false
set_option linter.unusedSimpArgs false
mutual
def Ae (i:Int):ah->Bool
 | ⟨op,ix,l⟩=>if op=1 then ix==i else occs i l
def occs (i:Int):List ah->Bool
 | []=>false
 | x::l=>Ae i x||occs i l
end
theorem Rt (i:Int) (x:ah):Ae i x=if x.Op=1 then x.Index==i else occs i x.au:=by cases x;rw [Ae]
theorem A5 (i:Int):∀ l:List ah,occs i l=l.any (Ae i)
 | []=>by simp [occs]
 | x::l=>by rw [occs,A5 i l,List.any_cons]
theorem xM (i:Int):∀ (k:Nat) (x:ah),tc x<=256->gz x<=k->Hg k x i=some (Ae i x)
 | 0,x,_,h=>by have:=g7 x;omega
 | k+1,x,hs,hk=>by
  have hz:=mC x;have W2:=iC x;have hl:=um x.au;show Qr (Hg k) x i=_;unfold Qr;rw [Rt];by_cases ho:x.Op=1
  ·rw [show (x.Op==1)=true from beq_iff_eq.2 ho,cond_true,if_pos ho]
  rw [show (x.Op==1)=false from beq_eq_false_iff_ne.2 ho,cond_false,if_neg ho];rw [dJ (s0:=(0:Int)) x.au (fun y=>if Ae i y then some true else none) (show x.au.length < 2 ^ 64 by omega) () rfl (fun j hj=>by
   have g1:=m9 x.au j hj;have g2:=(fj (d:=k) x.au).1 (by omega) j hj;rw [bO (show ((j:Nat):Int) < (x.au.length:Int) by omega),cond_true,aK hj];dsimp only [Option.bind];rw [eta,xM i k x.au[j] (by omega) g2];dsimp only
   cases Ae i x.au[j]
   ·rw [cond_false,ay (by omega)];rfl
   ·rfl) (by rw [bF (by omega),cond_false])]
  rw [A5]
  cases hf:x.au.findSome? (fun y=>if Ae i y then some true else none) with
  | none=>
   rw [List.findSome?_eq_none_iff] at hf;show some false=_;congr 1;refine (List.any_eq_false.2 fun y hy h=>?_).symm;have:=hf y hy;rw [if_pos h] at this;cases this
  | some b=>
   obtain ⟨y,hy,hb⟩:=List.exists_of_findSome?_eq_some hf;split at hb
   ·rename_i h;injection hb with hb;subst hb
    show some true=_;congr 1;exact (List.any_eq_true.2 ⟨y,hy,h⟩).symm
   ·cases hb
end cQ
end
section
namespace cQ
open Go Go.Pl
set_option linter.unusedVariables false
set_option linter.unusedSimpArgs false
def sm (n:Int):Bool:=decide (97<=n)&&decide (n<=122)
def gd (n:Int):Bool:=sm n||((decide (65<=n)&&decide (n<=90))||((decide (48<=n)&&decide (n<=57))||n==95))
theorem ME (n:Int):L4 n=some (gd n):=by
 unfold L4 gd sm;simp only [ge_iff_le];generalize decide (97<=n)=a;generalize decide (n<=122)=b;generalize decide (65<=n)=c;generalize decide (n<=90)=d;generalize decide (48<=n)=e;generalize decide (n<=57)=f;generalize (n==95)=g
 cases a<;>cases b<;>cases c<;>cases d<;>cases e<;>cases f<;>cases g<;>rfl
theorem OU {n:Int} (h:gd n=true):n<=122:=by
 unfold gd sm at h;simp only [Bool.or_eq_true,Bool.and_eq_true,decide_eq_true_eq,beq_iff_eq] at h;omega
def Aw (s:List UInt8):Bool:=match s with
 | []=>false
 | b::l=>sm b.toNat&&s.all fun c=>gd c.toNat
theorem OV (l:List UInt8) (k:Nat) (h:k < l.length):(ByteArray.mk l.toArray).get! k=l[k]:=by
 show (l.toArray)[k]! =l[k];rw [getElem!_pos l.toArray k (by simpa using h)];simp
theorem Rk (l:List UInt8) (k:Nat) (h:k < l.length) (hb:l[k].toNat < 128):qK l (k:Int)=((l[k].toNat:Int),((k+1:Nat):Int)):=by
 unfold qK Utf8.decode;rw [Int.toNat_natCast];simp only [Nat.add_zero,OV l k h,hb,if_true]
theorem Rl (l:List UInt8) (k:Nat) (h:k < l.length) (hb:¬ l[k].toNat < 128):(122:Int) < (qK l (k:Int)).1:=by
 unfold qK Utf8.decode;rw [Int.toNat_natCast];simp only [Nat.add_zero,OV l k h,hb,if_false];split
 ·split<;>simp only [Utf8.runeError]<;>omega
 split
 ·split
  ·rename_i hh;simp only [Bool.and_eq_true,decide_eq_true_eq] at hh;omega
  ·simp only [Utf8.runeError];omega
 split
 ·split
  ·rename_i hh;simp only [Bool.and_eq_true,decide_eq_true_eq] at hh;omega
  ·simp only [Utf8.runeError];omega
 ·simp only [Utf8.runeError];omega
theorem wrap_u8 {n:Int} (h0:0<=n) (h1:n < 256):IntKind.u8.wrap n=n:=by
 unfold IntKind.wrap;have e1:(2:Int) ^ IntKind.u8.bits=256:=by decide
 simp only [e1,IntKind.signed,Bool.false_and,Bool.false_eq_true,if_false];omega
theorem contains_eq (s:List UInt8) (hs:s.length < 2 ^ 63):mJ s=some (!s.all fun c=>gd c.toNat):=by
 unfold mJ uQ uP;rw [bn (s0:=(s,(0:Int))) (fun k:Nat=>(s,(k:Int))) (fun k=>s[k]?.bind fun c=>if gd c.toNat then none else some (k:Int)) s.length (show s.length < 2 ^ 64 by omega) () rfl (fun k hk _=>by
  dsimp only;rw [Int.toNat_natCast,show Nat.blt k s.length=true from by rw [Nat.blt_eq];exact hk,cond_true,List.getElem?_eq_getElem hk];dsimp only [Option.bind];by_cases hb:s[k].toNat < 128
  ·rw [Rk s k hk hb];unfold L5;dsimp only;by_cases h1:s[k].toNat > 122
   ·rw [decide_eq_true (show ((s[k].toNat:Nat):Int) > 122 by omega),cond_true];have:gd s[k].toNat=false:=by
     cases hg:gd s[k].toNat
     ·rfl
     ·have:=OU hg;omega
    rw [this];rfl
   ·rw [decide_eq_false (show ¬ ((s[k].toNat:Nat):Int) > 122 by omega),cond_false,wrap_u8 (by omega) (by omega),ME]
    cases hg:gd (s[k].toNat:Int)<;>rfl
  ·have h1:=Rl s k hk hb;unfold L5;rw [decide_eq_true (show (qK s (k:Int)).1 > 122 from h1),cond_true];have:gd s[k].toNat=false:=by
    cases hg:gd s[k].toNat
    ·rfl
    ·have:=OU hg;omega
   rw [this];rfl) (fun _=>by
  dsimp only;rw [Int.toNat_natCast,show Nat.blt s.length s.length=false from by rw [Bool.eq_false_iff];intro h;rw [Nat.blt_eq] at h;omega,cond_false])]
 cases hf:first s.length (fun k=>s[k]?.bind fun c=>if gd c.toNat then none else some (k:Int)) with
 | none=>
  rw [bR] at hf;have:s.all (fun c=>gd c.toNat)=true:=List.all_eq_true.2 fun x hx=>by
   obtain ⟨i,hi,rfl⟩:=List.getElem_of_mem hx;have:=hf i hi;rw [List.getElem?_eq_getElem hi] at this
   cases hg:gd (s[i].toNat:Int)
   ·simp [hg] at this
   ·rfl
  rw [this];rfl
 | some r=>
  obtain ⟨k,hk,hr⟩:=List.exists_of_findSome?_eq_some hf;have hk:=List.mem_range.1 hk;rw [List.getElem?_eq_getElem hk] at hr
  cases hg:gd (s[k].toNat:Int)
  case true=>simp [hg] at hr
  simp only [Option.bind_some,hg,Bool.false_eq_true,if_false,Option.some.injEq] at hr;subst hr;have:s.all (fun c=>gd c.toNat)=false:=List.all_eq_false.2 ⟨s[k],List.getElem_mem hk,by rw [hg];simp⟩;rw [this];show some (decide ((k:Int)≥0))=_;rw [decide_eq_true (by omega)];rfl
theorem MF (s:List UInt8) (hs:s.length < 2 ^ 63):L9 s=some (Aw s):=by
 unfold L9;have e0:∀ k:Nat,(((k:Nat):Int)==0)=decide (k=0):=fun k=>by
  rw [Bool.eq_iff_iff,beq_iff_eq,decide_eq_true_eq];omega
 rw [bn (s0:=(0:Int)) (fun k:Nat=>(k:Int)) (fun k=>s[k]?.bind fun c=>if (decide (k=0)&& !sm c.toNat)|| !gd c.toNat then some false else none) s.length (show s.length < 2 ^ 64 by omega) () rfl (fun k hk _=>by
  rw [bO (show ((k:Nat):Int) < (s.length:Int) by omega),cond_true,aK hk,List.getElem?_eq_getElem hk,e0];dsimp only [Option.bind];generalize ((s[k].toNat:Nat):Int)=n;rw [ay (by omega),show decide (n < 48)= !decide (48<=n) from by rw [<-decide_not];congr 1;exact propext (by omega),show decide (n > 57)= !decide (n<=57) from by rw [<-decide_not];congr 1;exact propext (by omega)];unfold gd sm;simp only [ge_iff_le,bne];generalize decide (97<=n)=a;generalize decide (n<=122)=b;generalize decide (65<=n)=c;generalize decide (n<=90)=d;generalize decide (48<=n)=e;generalize decide (n<=57)=f;generalize (n==95)=g;generalize decide (k=0)=z
  cases a<;>cases b<;>cases c<;>cases d<;>cases e<;>cases f<;>cases g<;>cases z<;>rfl) (fun _=>by
  rw [bF (by omega),cond_false])]
 cases hf:first s.length (fun k=>s[k]?.bind fun c=>if (decide (k=0)&& !sm c.toNat)|| !gd c.toNat then some false else none) with
 | none=>
  rw [bR] at hf
  cases s with
  | nil=>rfl
  | cons b l=>
   have ha:((b::l).all fun c=>gd c.toNat)=true:=List.all_eq_true.2 fun x hx=>by
    obtain ⟨i,hi,rfl⟩:=List.getElem_of_mem hx;have:=hf i hi;rw [List.getElem?_eq_getElem hi] at this
    cases hg:gd ((b::l)[i].toNat:Int)
    ·simp only [Option.bind_some,hg,Bool.not_false,Bool.or_true,if_true] at this;cases this
    ·rfl
   have hb:=hf 0 (by simp);have hs:sm (b.toNat:Int)=true:=by
    cases hg:sm (b.toNat:Int)
    ·simp [hg] at hb
    ·rfl
   show some true=some (sm b.toNat&&(b::l).all fun c=>gd c.toNat);rw [ha,hs];rfl
 | some r=>
  obtain ⟨k,hk,hr⟩:=List.exists_of_findSome?_eq_some hf;have hk:=List.mem_range.1 hk;rw [List.getElem?_eq_getElem hk] at hr;simp only [Option.bind_some] at hr;split at hr
  case isFalse=>cases hr
  rename_i hc;injection hr with hr;subst hr
  show some false=_;congr 1
  cases s with
  | nil=>simp at hk
  | cons b l=>
   show false=(sm b.toNat&&(b::l).all fun c=>gd c.toNat);simp only [Bool.or_eq_true,Bool.and_eq_true,decide_eq_true_eq,Bool.not_eq_true'] at hc;rcases hc with ⟨h0,h1⟩ | h1
   ·subst h0;rw [show sm (b.toNat:Int)=false from h1];rfl
   ·have:((b::l).all fun c=>gd c.toNat)=false:=List.all_eq_false.2 ⟨(b::l)[k],List.getElem_mem hk,by rw [h1];simp⟩;rw [this,Bool.and_false]
end cQ
end
section
namespace cQ
open Go Go.Pl
set_option linter.unusedVariables false
set_option linter.unusedSimpArgs false
abbrev MP:=List (List UInt8×Int)
theorem dm:∀ L:MP,List.zip (L.map (·.1)) (L.map (·.2))=L
 | []=>rfl
 | x::L=>by rw [List.map_cons,List.map_cons,List.zip_cons_cons,dm L]
theorem EY (x:List UInt8):∀ L:MP,(DY x L).isSome=decide (x∈L.map (·.1))
 | []=>rfl
 | p::L=>by
  unfold DY;by_cases h:x=p.1
  ·rw [if_pos h];simp [h]
  ·rw [if_neg h,EY x L];simp [h]
theorem zB (x:List UInt8) (v:Int) (y:List UInt8):∀ L:MP,y∈(Cy x v L).map (·.1)↔y=x\/y∈L.map (·.1)
 | []=>by simp [Cy]
 | p::L=>by
  unfold Cy;by_cases h:x=p.1
  ·rw [if_pos h];simp [h]
  ·rw [if_neg h,List.map_cons,List.mem_cons,zB x v y L,List.map_cons,List.mem_cons];constructor
   ·rintro (h | h | h)
    ·exact .inr (.inl h)
    ·exact .inl h
    ·exact .inr (.inr h)
   ·rintro (h | h | h)
    ·exact .inr (.inl h)
    ·exact .inl h
    ·exact .inr (.inr h)
def Ta (s:List UInt8) (taken:Bool):Int:=if Aw s then (if (s.length:Int) > 24 then 17 else if taken then 7 else 0) else 3
theorem Ni (s:List UInt8) (L:MP) (a3:Int) (a4:List (List UInt8)) (a5:List ak) (a6 a7:List Int) (hs:s.length < 2 ^ 63):
 ∃ L':MP,xe s (L.map (·.1)) (L.map (·.2)) a3 a4 a5 a6 a7=some (.inl (Ta s (decide (s∈L.map (·.1))),L'.map (·.1),L'.map (·.2),a3,a4,a5,a6,a7))/\
  (Ta s (decide (s∈L.map (·.1)))=0->∀ y,y∈L'.map (·.1)↔y=s\/y∈L.map (·.1)):=by
 have h0:((bif (s==[]) then some (true,((List.zip (L.map (·.1)) (L.map (·.2))).map (·.1)),((List.zip (L.map (·.1)) (L.map (·.2))).map (·.2)),a3,a4,a5,a6,a7) else (idx s 0).bind fun v2=>(bif (decide ((v2.toNat:Int) < 97)) then some (true,((List.zip (L.map (·.1)) (L.map (·.2))).map (·.1)),((List.zip (L.map (·.1)) (L.map (·.2))).map (·.2)),a3,a4,a5,a6,a7) else (idx s 0).bind fun v3=>(bif (decide ((v3.toNat:Int) > 122)) then some (true,((List.zip (L.map (·.1)) (L.map (·.2))).map (·.1)),((List.zip (L.map (·.1)) (L.map (·.2))).map (·.2)),a3,a4,a5,a6,a7) else (mJ s).bind fun v4=>some (v4,((List.zip (L.map (·.1)) (L.map (·.2))).map (·.1)),((List.zip (L.map (·.1)) (L.map (·.2))).map (·.2)),a3,a4,a5,a6,a7)))):Option (Bool×(List (List UInt8))×(List Int)×Int×(List (List UInt8))×(List ak)×(List Int)×(List Int)))=some (!Aw s,L.map (·.1),L.map (·.2),a3,a4,a5,a6,a7):=by
  simp only [dm,contains_eq s hs]
  cases s with
  | nil=>rfl
  | cons b l=>
   have e:idx (b::l) 0=some b:=rfl;rw [e];show (bif false then _ else _)=_;rw [cond_false];dsimp only [Option.bind];by_cases h1:(b.toNat:Int) < 97
   ·rw [bO h1,cond_true];have:sm b.toNat=false:=by unfold sm;rw [decide_eq_false (by omega)];rfl
    show _=some (!(sm b.toNat&&_),_);rw [this];rfl
   rw [bF h1,cond_false];by_cases h2:(b.toNat:Int) > 122
   ·rw [decide_eq_true h2,cond_true];have:sm b.toNat=false:=by unfold sm;rw [decide_eq_false (p:=(b.toNat:Int)<=122) (by omega),Bool.and_false]
    show _=some (!(sm b.toNat&&_),_);rw [this];rfl
   rw [decide_eq_false h2,cond_false];have:sm b.toNat=true:=by unfold sm;rw [decide_eq_true (by omega),decide_eq_true (by omega)];rfl
   show _=some (!(sm b.toNat&&_),_);rw [this,Bool.true_and]
 unfold xe;rw [h0];dsimp only [Option.bind];simp only [dm,EY];unfold Ta
 cases hw:Aw s
 ·exact ⟨L,rfl,fun h=>by cases h⟩
 rw [Bool.not_true,cond_false,if_pos rfl];by_cases hl:(s.length:Int) > 24
 ·rw [decide_eq_true hl,cond_true,if_pos hl];exact ⟨L,rfl,fun h=>by cases h⟩
 rw [decide_eq_false hl,cond_false,if_neg hl]
 cases ht:decide (s∈L.map (·.1))
 ·rw [cond_false];dsimp only;rw [cond_false];simp only [dm];exact ⟨_,rfl,fun _ y=>zB _ _ _ _⟩
 ·rw [cond_true];dsimp only;rw [cond_true];simp only [dm,if_true];exact ⟨L,rfl,fun h=>by cases h⟩
end cQ
end
section
namespace cQ
open Go Go.Pl
set_option linter.unusedVariables false
set_option linter.unusedSimpArgs false
mutual
def GS (n:Int):ah->Prop
 | ⟨op,ix,l⟩=>(op=1->0<=ix/\ix < n/\l=[])/\At n l
def At (n:Int):List ah->Prop
 | []=>True
 | x::l=>GS n x/\At n l
end
mutual
def nQ (p:Int->Bool):ah->Bool
 | ⟨op,ix,l⟩=>(op==1&&p ix)||kh p l
def kh (p:Int->Bool):List ah->Bool
 | []=>false
 | x::l=>nQ p x||kh p l
end
theorem IL (n:Int) (x:ah):GS n x=((x.Op=1->0<=x.Index/\x.Index < n/\x.au=[])/\At n x.au):=by cases x;rw [GS]
theorem MZ (p:Int->Bool) (x:ah):nQ p x=((x.Op==1&&p x.Index)||kh p x.au):=by cases x;rw [nQ]
theorem uU (n:Int):∀ l:List ah,At n l↔∀ (i:Nat) (h:i < l.length),GS n l[i]
 | []=>by simp [At]
 | x::l=>by
  rw [At,uU n l];constructor
  ·rintro ⟨h1,h2⟩ i hi
   cases i with
   | zero=>exact h1
   | succ i=>exact h2 i (by simpa using hi)
  ·intro h;exact ⟨h 0 (by simp),fun i hi=>h (i+1) (by simpa using hi)⟩
theorem vH (p:Int->Bool):∀ (l:List ah) (i:Nat) (h:i < l.length),kh p (l.take (i+1))=(kh p (l.take i)||nQ p l[i])
 | x::l,0,h=>by simp [kh]
 | x::l,i+1,h=>by
  have:=vH p l i (by simpa using h);simp only [List.take_succ_cons,kh,List.getElem_cons_succ,this,Bool.or_assoc]
mutual
theorem ES (p:Int->Bool) (n:Int):∀ x:ah,GS n x->(nQ p x=true↔∃ j,(0<=j/\j < n)/\p j=true/\Ae j x=true)
 | ⟨op,ix,l⟩,h=>by
  rw [GS] at h;rw [nQ,Bool.or_eq_true,Bool.and_eq_true,beq_iff_eq,BT p n l h.2];by_cases ho:op=1
  ·obtain ⟨h1,h2,h3⟩:=h.1 ho;subst h3;constructor
   ·rintro (⟨_,hp⟩ | ⟨j,_,_,hj⟩)
    ·exact ⟨ix,⟨h1,h2⟩,hp,by rw [Ae,if_pos ho,beq_iff_eq]⟩
    ·simp [occs] at hj
   ·rintro ⟨j,_,hp,hj⟩;rw [Ae,if_pos ho,beq_iff_eq] at hj;subst hj;exact .inl ⟨ho,hp⟩
  ·constructor
   ·rintro (⟨h1,_⟩ | ⟨j,h1,h2,hj⟩)
    ·exact (ho h1).elim
    ·exact ⟨j,h1,h2,by rw [Ae,if_neg ho];exact hj⟩
   ·rintro ⟨j,h1,hp,hj⟩;rw [Ae,if_neg ho] at hj;exact .inr ⟨j,h1,hp,hj⟩
theorem BT (p:Int->Bool) (n:Int):∀ l:List ah,At n l->(kh p l=true↔∃ j,(0<=j/\j < n)/\p j=true/\occs j l=true)
 | [],_=>by simp [kh,occs]
 | x::l,h=>by
  rw [At] at h;rw [kh,Bool.or_eq_true,ES p n x h.1,BT p n l h.2];constructor
  ·rintro (⟨j,h1,h2,h3⟩ | ⟨j,h1,h2,h3⟩)
   ·exact ⟨j,h1,h2,by rw [occs,h3,Bool.true_or]⟩
   ·exact ⟨j,h1,h2,by rw [occs,h3,Bool.or_true]⟩
  ·rintro ⟨j,h1,h2,h3⟩;rw [occs,Bool.or_eq_true] at h3;rcases h3 with h3 | h3
   ·exact .inl ⟨j,h1,h2,h3⟩
   ·exact .inr ⟨j,h1,h2,h3⟩
end
theorem Lh {x:ah} {n:Int} (h:Aj x n=some 0) (ho:x.Op=1):0<=x.Index/\x.Index < n/\x.au=[]:=by
 obtain ⟨op,ix,l⟩:=x;dsimp only at ho;subst ho;unfold Aj at h;dsimp only at h ⊢;simp only [vY,Option.bind_some] at h;by_cases hl:(l.length:Int)=0
 ·have e:l=[]:=List.eq_nil_of_length_eq_zero (by omega);subst e;by_cases h1:ix < 0
  ·simp [h1] at h
  by_cases h2:ix≥n
  ·simp [h1,h2] at h
  exact ⟨by omega,by omega,rfl⟩
 ·have:((l.length:Int) !=0)=true:=bne_iff_ne.2 hl;simp [this] at h
theorem vz (n:Int):∀ (k:Nat) (x:ah),tc x<=256->gz x<=k->∃ v,oj k x n=some v/\(v=0->GS n x)
 | 0,x,_,h=>by have:=g7 x;omega
 | k+1,x,hs,hk=>by
  have hz:=mC x;have W2:=iC x;have hl:=um x.au;show ∃ v,HA (oj k) x n=some v/\_;unfold HA;rw [eta];obtain ⟨v,hv⟩:=yd x n;rw [hv];dsimp only [Option.bind];by_cases FJ:v=0
  case neg=>
   rw [show (v !=0)=true from bne_iff_ne.2 FJ,cond_true];exact ⟨v,rfl,fun h=>(FJ h).elim⟩
  subst FJ;rw [show ((0:Int) !=0)=false from rfl,cond_false];have child:∀ (i:Nat) (hi:i < x.au.length),∃ w,oj k x.au[i] n=some w/\(w=0->GS n x.au[i]):=fun i hi=>by
   have g1:=m9 x.au i hi;have g2:=(fj (d:=k) x.au).1 (by omega) i hi;exact vz n k x.au[i] (by omega) g2
  let g:Nat->Option Int:=fun j=>(x.au[j]?).bind fun y=>(oj k y n).bind fun w=>if w=0 then none else some w
  have hg:∀ (i:Nat) (hi:i < x.au.length) (w:Int),oj k x.au[i] n=some w->g i=if w=0 then none else some w:=fun i hi w hw=>by
   show (x.au[i]?).bind _=_;rw [List.getElem?_eq_getElem hi];show (oj k x.au[i] n).bind _=_;rw [hw];rfl
  rw [bn (s0:=(0:Int)) (fun j:Nat=>(j:Int)) g x.au.length (show x.au.length < 2 ^ 64 by omega) () rfl (fun i hi _=>by
   obtain ⟨w,c1,_⟩:=child i hi;rw [hg i hi w c1,bO (show ((i:Nat):Int) < (x.au.length:Int) by omega),cond_true,aK hi];dsimp only;rw [eta,c1];dsimp only;by_cases hw:w=0
   ·subst hw;rw [show ((0:Int) !=0)=false from rfl,cond_false,if_pos rfl,ay (by omega)]
   ·rw [show (w !=0)=true from bne_iff_ne.2 hw,cond_true,if_neg hw]) (fun _=>by rw [bF (by omega),cond_false])]
  cases hf:first x.au.length g with
  | none=>
   refine ⟨0,rfl,fun _=>?_⟩;rw [IL];refine ⟨Lh hv,(uU n _).2 fun i hi=>?_⟩;obtain ⟨w,c1,c2⟩:=child i hi;have:=bR.1 hf i hi;rw [hg i hi w c1] at this;by_cases hw:w=0
   ·exact c2 hw
   ·rw [if_neg hw] at this;cases this
  | some w=>
   refine ⟨w,rfl,?_⟩;rintro rfl;obtain ⟨j,_,hj⟩:=List.exists_of_findSome?_eq_some hf;obtain ⟨y,_,hj⟩:=Option.bind_eq_some_iff.1 hj;obtain ⟨u,_,hj⟩:=Option.bind_eq_some_iff.1 hj;split at hj
   ·cases hj
   ·rename_i hn;injection hj with hj;exact (hn hj).elim
theorem A8 {x:ah} {n:Int} (h:tQ x n=some 0):tc x<=256/\gz x<=16/\GS n x:=by
 unfold tQ at h;by_cases h0:n < 0
 ·rw [bO h0,cond_true] at h;exact absurd h (by simp)
 rw [bF h0,cond_false] at h;dsimp only [Option.bind] at h;by_cases h1:n > 256
 ·rw [decide_eq_true h1,cond_true] at h;exact absurd h (by simp)
 rw [decide_eq_false h1,cond_false,eta,u6] at h;by_cases hl:tc x<=256/\gz x<=16
 ·obtain ⟨v,h2,h3⟩:=vz n fuel x hl.1 (show gz x<=2 ^ 64 by omega);have h2:Hf x n=some v:=h2;rw [decide_eq_true hl] at h;dsimp only at h;rw [Bool.not_true,cond_false,h2] at h;injection h with h
  exact ⟨hl.1,hl.2,h3 h⟩
 ·rw [decide_eq_false hl] at h;exact absurd h (by simp)
theorem we (x:ah) (n:Int):∃ v,tQ x n=some v:=by
 unfold tQ;by_cases h0:n < 0
 ·rw [bO h0,cond_true];exact ⟨_,rfl⟩
 rw [bF h0,cond_false];dsimp only [Option.bind];by_cases h1:n > 256
 ·rw [decide_eq_true h1,cond_true];exact ⟨_,rfl⟩
 rw [decide_eq_false h1,cond_false,eta,u6];by_cases hl:tc x<=256/\gz x<=16
 ·obtain ⟨v,h2,h3⟩:=vz n fuel x hl.1 (show gz x<=2 ^ 64 by omega);have h2:Hf x n=some v:=h2;rw [decide_eq_true hl];dsimp only;rw [Bool.not_true,cond_false,h2];exact ⟨_,rfl⟩
 ·rw [decide_eq_false hl];exact ⟨_,rfl⟩
end cQ
end
section
namespace cQ
open Go Go.Pl
set_option linter.unusedVariables false
set_option linter.unusedSimpArgs false
structure dQ (c:aA):Prop where
 a1:1<=c.U
 a6:c.U<=6
 i:c.aE.length<=16
 s:c.af.length<=64
def fl (c:aA):Int:=2*c.U+c.aE.length
theorem dQ.tP {c:aA} (h:dQ c):tP c=some (fl c):=by
 unfold cQ.tP fl;have:=h.a1;have:=h.a6;have:=h.i;rw [iA (by omega) (by omega),bH (by omega) (by omega)]
theorem dQ.qM {c:aA} (h:dQ c):qM c=some (fl c):=h.tP
theorem dQ.lY {c:aA} (h:dQ c):lY c=some (fl c+c.af.length):=by
 unfold cQ.lY fl;have:=h.a1;have:=h.a6;have:=h.i;have:=h.s;rw [iA (by omega) (by omega),bH (x:=2*c.U) (by omega) (by omega),bH (by omega) (by omega)]
def lp (c:aA) (i:Nat) (ix:Int):Bool:=decide (ix - fl c≥(i:Int))&&(match idx c.af (ix - fl c) with | some s=>s.Kind==0 | none=>false)
theorem EP (L:MP) (c:aA) (hc:dQ c) (i:Nat):∀ (k:Nat) (x:ah) (b:Bool),tc x<=256->gz x<=k->GS (fl c+c.af.length) x->
 Av k x (L.map (·.1)) (L.map (·.2)) c.U c.aE c.af c.bW c.aY b (i:Int)=some (.inl (L.map (·.1),L.map (·.2),c.U,c.aE,c.af,c.bW,c.aY,b||nQ (lp c i) x,(i:Int)))
 | 0,x,_,_,h,_=>by have:=g7 x;omega
 | k+1,x,b,hs,hk,hv=>by
  have hz:=mC x;have W2:=iC x;have hl:=um x.au;rw [IL] at hv;show HT (Av k) x (L.map (·.1)) (L.map (·.2)) c.U c.aE c.af c.bW c.aY b (i:Int)=_;unfold HT;have hm:tP (⟨c.U,c.aE,c.af,c.bW,c.aY⟩:aA)=some (fl c):=hc.tP;simp only [dm,hm,Option.bind_some];have h1:((bif (x.Op==1) then ((bif b then some (L.map (·.1),L.map (·.2),c.U,c.aE,c.af,c.bW,c.aY,true,(i:Int)) else (bif (decide ((dF .i64 x.Index (fl c))≥(i:Int))) then (idx c.af (dF .i64 x.Index (fl c))).bind fun v4=>some (L.map (·.1),L.map (·.2),c.U,c.aE,c.af,c.bW,c.aY,(v4.Kind==0),(i:Int)) else some (L.map (·.1),L.map (·.2),c.U,c.aE,c.af,c.bW,c.aY,false,(i:Int)))):Option ((List (List UInt8))×(List Int)×Int×(List (List UInt8))×(List ak)×(List Int)×(List Int)×Bool×Int)).bind fun w3=>some (((List.zip w3.1 w3.2.1).map (·.1)),((List.zip w3.1 w3.2.1).map (·.2)),w3.2.2.1,w3.2.2.2.1,w3.2.2.2.2.1,w3.2.2.2.2.2.1,w3.2.2.2.2.2.2.1,w3.2.2.2.2.2.2.2.1,w3.2.2.2.2.2.2.2.2) else some (L.map (·.1),L.map (·.2),c.U,c.aE,c.af,c.bW,c.aY,b,(i:Int))):Option ((List (List UInt8))×(List Int)×Int×(List (List UInt8))×(List ak)×(List Int)×(List Int)×Bool×Int))=some (L.map (·.1),L.map (·.2),c.U,c.aE,c.af,c.bW,c.aY,b||(x.Op==1&&lp c i x.Index),(i:Int)):=by
   cases ho:x.Op==1
   ·rw [cond_false,Bool.false_and,Bool.or_false]
   rw [cond_true,Bool.true_and];obtain ⟨r1,r2,r3⟩:=hv.1 (beq_iff_eq.1 ho);have:=hc.a1;have:=hc.a6;have:=hc.i;have:=hc.s;have hf:0<=fl c/\fl c<=28:=by unfold fl;omega
   cases b
   ·rw [cond_false,Bool.false_or,ef (by omega) (by omega)];unfold lp;by_cases hd:x.Index - fl c≥(i:Int)
    ·obtain ⟨q1,q2⟩:=nc (l:=c.af) (i:=x.Index - fl c) (by omega) (by omega);rw [decide_eq_true hd,cond_true,q2];dsimp only [Option.bind];rw [dm,Bool.true_and]
    ·rw [decide_eq_false hd,cond_false];dsimp only [Option.bind];rw [dm,Bool.false_and]
   ·rw [cond_true];dsimp only [Option.bind];rw [dm,Bool.true_or]
  rw [h1];dsimp only [Option.bind];generalize hb:(b||(x.Op==1&&lp c i x.Index))=b1;rw [bh (s0:=((0:Int),((List.zip (L.map (·.1)) (L.map (·.2))).map (·.1)),((List.zip (L.map (·.1)) (L.map (·.2))).map (·.2)),c.U,c.aE,c.af,c.bW,c.aY,b1,(i:Int))) (fun j:Nat=>((j:Int),L.map (·.1),L.map (·.2),c.U,c.aE,c.af,c.bW,c.aY,b1||kh (lp c i) (x.au.take j),(i:Int))) x.au.length (show x.au.length < 2 ^ 64 by omega)
   (L.map (·.1),L.map (·.2),c.U,c.aE,c.af,c.bW,c.aY,b1||kh (lp c i) x.au,(i:Int)) (by simp [dm,kh]) (fun j hj=>by
    dsimp only;have g1:=m9 x.au j hj;have g2:=(fj (d:=k) x.au).1 (by omega) j hj;rw [bO (show ((j:Nat):Int) < (x.au.length:Int) by omega),cond_true,aK hj];dsimp only;rw [eta,dm,EP L c hc i k x.au[j] _ (by omega) g2 ((uU _ _).1 hv.2 j hj)];dsimp only [Sum.elim_inl];rw [dm,ay (by omega),vH _ _ _ hj,Bool.or_assoc]) (by
    dsimp only;rw [bF (by omega),cond_false,dm,List.take_length])]
  dsimp only;rw [dm,<-hb,MZ,Bool.or_assoc]
theorem M0 (c:aA) (hc:dQ c) (i:Nat) (hi:i < c.af.length) (h1:tc c.af[i].On<=256) (h2:gz c.af[i].On<=16) (h3:GS (fl c+c.af.length) c.af[i].On):
 Ma c (i:Int)=some (nQ (lp c i) c.af[i].On):=by
 unfold Ma;have:=hc.a1;have:=hc.a6;have:=hc.i;have:=hc.s;have hf:0<=fl c/\fl c<=28:=by unfold fl;omega
 rw [bn (s0:=(i:Int)) (fun k:Nat=>((i+k:Nat):Int)) (fun k=>(c.af[i+k]?).bind fun s=>if (s.Kind==0&&Ae (fl c+((i+k:Nat):Int)) c.af[i].On)=true then some true else none) (c.af.length - i) (show c.af.length - i < 2 ^ 64 by omega) () rfl (fun k hk _=>by
  have hk':i+k < c.af.length:=by omega
  rw [bO (show (((i+k:Nat):Nat):Int) < (c.af.length:Int) by omega),cond_true,aK hk',List.getElem?_eq_getElem hk',aK hi,hc.qM];dsimp only [Option.bind];rw [eta,bH (by omega) (by omega)];unfold Ql;rw [xM _ fuel c.af[i].On h1 (show _<=2 ^ 64 by omega),ay (by omega)]
  cases c.af[i+k].Kind==0
  ·rfl
  ·rw [cond_true];dsimp only
   cases Ae (fl c+((i+k:Nat):Int)) c.af[i].On<;>rfl) (fun _=>by
  rw [bF (by omega),cond_false])]
 have key:nQ (lp c i) c.af[i].On=true↔∃ k,k < c.af.length - i/\((c.af[i+k]?).bind fun s=>if (s.Kind==0&&Ae (fl c+((i+k:Nat):Int)) c.af[i].On)=true then some true else none)=some true:=by
  rw [ES _ _ _ h3];constructor
  ·rintro ⟨j,⟨j0,j1⟩,hp,ho⟩;unfold lp at hp;simp only [Bool.and_eq_true,decide_eq_true_eq] at hp;obtain ⟨q1,q2⟩:=nc (l:=c.af) (i:=j - fl c) (by omega) (by omega);rw [q2] at hp;dsimp only at hp;refine ⟨(j - fl c).toNat - i,by omega,?_⟩;have e:i+((j - fl c).toNat - i)=(j - fl c).toNat:=by omega
   rw [e,List.getElem?_eq_getElem q1];dsimp only [Option.bind];rw [if_pos];rw [hp.2,Bool.true_and,show fl c+(((j - fl c).toNat:Nat):Int)=j by omega];exact ho
  ·rintro ⟨k,hk,h⟩;have hk':i+k < c.af.length:=by omega
   rw [List.getElem?_eq_getElem hk'] at h;dsimp only [Option.bind] at h;split at h
   ·rename_i hh;rw [Bool.and_eq_true] at hh;refine ⟨fl c+((i+k:Nat):Int),⟨by omega,by omega⟩,?_,hh.2⟩;unfold lp;rw [show fl c+((i+k:Nat):Int) - fl c=((i+k:Nat):Int) by omega,decide_eq_true (by omega),aK hk',Bool.true_and];exact hh.1
   ·cases h
 cases hf:first (c.af.length - i) (fun k=>(c.af[i+k]?).bind fun s=>if (s.Kind==0&&Ae (fl c+((i+k:Nat):Int)) c.af[i].On)=true then some true else none) with
 | none=>
  have:nQ (lp c i) c.af[i].On=false:=by
   cases hv:nQ (lp c i) c.af[i].On
   ·rfl
   ·obtain ⟨k,hk,h⟩:=key.1 hv;rw [bR.1 hf k hk] at h;cases h
  rw [this];rfl
 | some r=>
  obtain ⟨k,hk,hr⟩:=List.exists_of_findSome?_eq_some hf;have hk:=List.mem_range.1 hk;have PI:r=true:=by
   obtain ⟨s,_,hs⟩:=Option.bind_eq_some_iff.1 hr;split at hs
   ·injection hs with hs;exact hs.symm
   ·cases hs
  subst PI;rw [key.2 ⟨k,hk,hr⟩];rfl
end cQ
end
section
namespace cQ
open Go Go.Pl
set_option linter.unusedVariables false
set_option linter.unusedSimpArgs false
structure ua (c:aA):Prop where
 i:∀ (k:Nat) (h:k < c.aE.length),c.aE[k].length < 2 ^ 63
 s:∀ (k:Nat) (h:k < c.af.length),c.af[k].Name.length < 2 ^ 63
def nm (c:aA) (k:Nat):List UInt8:=(sM c (k:Int)).getD []
theorem zG {c:aA} {k:Nat} {v:List UInt8} (h:sM c (k:Int)=some v):nm c k=v:=by unfold nm;rw [h];rfl
theorem dQ.Tf {c:aA} (h:dQ c):0<=fl c/\fl c<=28:=by
 unfold fl;have:=h.a1;have:=h.a6;have:=h.i;omega
theorem zf {c:aA} (h:dQ c) (ht:ua c) (k:Nat) (hk:(k:Int) < fl c+c.af.length):sM c (k:Int)=some (nm c k)/\(nm c k).length < 2 ^ 63:=by
 suffices ∃ v,sM c (k:Int)=some v/\v.length < 2 ^ 63 by
  obtain ⟨v,h1,h2⟩:=this;rw [zG h1];exact ⟨h1,h2⟩
 have:=h.a1;have:=h.a6;have:=h.i;have:=h.s;unfold sM;rw [h.qM,iA (by omega) (by omega)];dsimp only [Option.bind];by_cases hl:(k:Int) < 2*c.U
 ·rw [bO hl,cond_true];have:k=0\/k=1\/k=2\/k=3\/k=4\/k=5\/k=6\/k=7\/k=8\/k=9\/k=10\/k=11:=by omega
  clear hl hk;rcases this with rfl | rfl | rfl | rfl | rfl | rfl | rfl | rfl | rfl | rfl | rfl | rfl<;>exact ⟨_,rfl,by decide⟩
 rw [bF hl,cond_false];by_cases hf:(k:Int) < fl c
 ·have h0:=h.Tf;rw [bO hf,cond_true,ef (by omega) (by omega)];obtain ⟨q1,q2⟩:=nc (l:=c.aE) (i:=(k:Int) - 2*c.U) (by omega) (by unfold fl at hf;omega);rw [q2];exact ⟨_,rfl,ht.i _ q1⟩
 ·rw [bF hf,cond_false];have h0:=h.Tf;rw [ef (by omega) (by omega)];obtain ⟨q1,q2⟩:=nc (l:=c.af) (i:=(k:Int) - fl c) (by omega) (by omega);rw [q2];exact ⟨_,rfl,ht.s _ q1⟩
theorem VX {c:aA} (h:dQ c) (i:Nat) (hi:i < c.aE.length) (k:Nat) (hk:(k:Int)=2*c.U+i):nm c k=c.aE[i]:=by
 apply zG
 have:=h.a1;have:=h.a6;have:=h.i;have:=h.s;unfold sM;rw [h.qM,iA (by omega) (by omega)];dsimp only [Option.bind];rw [bF (by omega),cond_false,bO (by unfold fl;omega),cond_true,ef (by omega) (by omega),show (k:Int) - 2*c.U=(i:Nat) by omega,aK hi]
theorem R1 {c:aA} (h:dQ c) (i:Nat) (hi:i < c.af.length) (k:Nat) (hk:(k:Int)=fl c+i):nm c k=c.af[i].Name:=by
 apply zG
 have:=h.a1;have:=h.a6;have:=h.i;have:=h.s;have:=h.Tf;unfold sM;rw [h.qM,iA (by omega) (by omega)];dsimp only [Option.bind];rw [bF (by unfold fl at hk;omega),cond_false,bF (by omega),cond_false,ef (by omega) (by omega),show (k:Int) - fl c=(i:Nat) by omega,aK hi]
theorem Bp {c:aA} (h:dQ c) (ht:ua c) (k:Nat) (hk:(k:Int) < fl c+c.af.length):
 wJ c (k:Int)=some (Ta (nm c k) (decide (∃ j,j < k/\nm c j=nm c k))):=by
 unfold wJ Ta;obtain ⟨h1,h2⟩:=zf h ht k hk;rw [h1];dsimp only [Option.bind];rw [MF _ h2];dsimp only
 cases hw:Aw (nm c k)
 ·rfl
 rw [Bool.not_true,cond_false,if_pos rfl];by_cases hl:((nm c k).length:Int) > 24
 ·rw [decide_eq_true hl,cond_true,if_pos hl]
 rw [decide_eq_false hl,cond_false,if_neg hl];have:=h.Tf;have:=h.s;rw [bn (s0:=(0:Int)) (fun j:Nat=>(j:Int)) (fun j=>if nm c j=nm c k then some 7 else none) k (show k < 2 ^ 64 by omega) () rfl (fun j hj _=>by
  rw [bO (show ((j:Nat):Int) < (k:Int) by omega),cond_true,(zf h ht j (by omega)).1];dsimp only;by_cases he:nm c j=nm c k
  ·rw [if_pos he,beq_iff_eq.2 he,cond_true]
  ·rw [if_neg he,beq_eq_false_iff_ne.2 he,cond_false,ay (by omega)]) (fun _=>by rw [bF (by omega),cond_false])]
 by_cases hx:∃ j,j < k/\nm c j=nm c k
 ·rw [decide_eq_true hx]
  cases hf:first k (fun j=>if nm c j=nm c k then some (7:Int) else none) with
  | none=>
   obtain ⟨j,hj,he⟩:=hx;have:=bR.1 hf j hj;rw [if_pos he] at this;cases this
  | some r=>
   obtain ⟨j,hj,hr⟩:=List.exists_of_findSome?_eq_some hf;split at hr
   ·injection hr with hr;subst hr;rfl
   ·cases hr
 ·rw [decide_eq_false hx,ld (fun j hj=>by rw [if_neg (fun he=>hx ⟨j,hj,he⟩)])];rfl
def iq (c:aA) (k:Nat) (L:MP):Prop:=∀ y,y∈L.map (·.1)↔∃ j,j < k/\nm c j=y
theorem iq.zero (c:aA):iq c 0 []:=fun y=>⟨fun h=>by simp at h,fun ⟨j,h,_⟩=>by omega⟩
theorem iq.more {c:aA} {k:Nat} {L L':MP} (h:iq c k L) (h':∀ y,y∈L'.map (·.1)↔y=nm c k\/y∈L.map (·.1)):iq c (k+1) L':=fun y=>by
 rw [h' y,h y];constructor
 ·rintro (rfl | ⟨j,h1,h2⟩)
  ·exact ⟨k,by omega,rfl⟩
  ·exact ⟨j,by omega,h2⟩
 ·rintro ⟨j,h1,h2⟩;by_cases e:j=k
  ·subst e;exact .inl h2.symm
  ·exact .inr ⟨j,by omega,h2⟩
theorem Bq {c:aA} (h:dQ c) (ht:ua c) (k:Nat) (hk:(k:Int) < fl c+c.af.length) {L:MP} (hL:iq c k L):
 ∃ (e:Int) (L':MP),wJ c (k:Int)=some e/\xe (nm c k) (L.map (·.1)) (L.map (·.2)) c.U c.aE c.af c.bW c.aY=some (.inl (e,L'.map (·.1),L'.map (·.2),c.U,c.aE,c.af,c.bW,c.aY))/\(e=0->iq c (k+1) L'):=by
 obtain ⟨L',h1,h2⟩:=Ni (nm c k) L c.U c.aE c.af c.bW c.aY (zf h ht k hk).2;have e:decide (nm c k∈L.map (·.1))=decide (∃ j,j < k/\nm c j=nm c k):=by
  rw [Bool.eq_iff_iff,decide_eq_true_eq,decide_eq_true_eq];exact hL _
 rw [e] at h1 h2;exact ⟨_,L',Bp h ht k hk,h1,fun h0=>hL.more (h2 h0)⟩
end cQ
end
