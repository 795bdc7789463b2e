/- Parts of my machine and its laws, joined: P34d P34e P34f P34g P34h P34i P34j P34k P34l P34m P34n P34o. No condition. -/
import Derived.Test.YtafgdbaekppjcaaGreatDoorP33i
set_option linter.unusedSectionVars false
set_option linter.unusedVariables false
set_option linter.unusedSimpArgs false
section
namespace ck
open Go Go.Pl
theorem r8 {τ ρ β:Type} {body:Int×τ->Option ((Int×τ)⊕ρ)} {t0:τ} {F:ρ->Option β} {Post:β->Prop} (n:Nat) (hn:n < fuel) (P:Nat->τ->Prop) (Q:ρ->Prop) (h0:P 0 t0)
 (h:∀ (k:Nat) (t:τ),k<=n->P k t->(∃ t',k < n/\body (k,t)=some (.inl (((k+1:Nat):Int),t'))/\P (k+1) t')\/∃ r,body (k,t)=some (.inr r)/\Q r)
 (hF:∀ r,Q r->∃ b,F r=some b/\Post b):∃ b,(iter body (0,t0)).bind F=some b/\Post b:=by
 obtain ⟨r,h1,h2⟩:=J3 n hn P Q h0 h;obtain ⟨b,h3,h4⟩:=hF r h2;exact ⟨b,by rw [h1];exact h3,h4⟩
theorem DT (l:List ai):ef (l.take l.length)=ef l:=by rw [zbr]
abbrev M5:=Int×Int×Bool×Int×Int
def L4 (x:ai) (d c:Nat) (a2 a3:Int) (a4:Bool):M5⊕M5->Prop
 | .inl w=>w.2.2.1=false/\¬ (c+ud x<=256/\d+gu x<=17)
 | .inr w=>w.1=a2/\w.2.1=a3/\w.2.2.1=a4/\w.2.2.2.1=((c+ud x:Nat):Int)/\(c+ud x<=256/\d+gu x<=17)
theorem DU:∀ (k:Nat) (x:ai) (d c:Nat) (a2 a3:Int) (a4:Bool) (a6 a7 a8:Int) (a9:List ai),1<=d->d<=17->c<=256->18<=k+d->
 ∃ r,zB k x d a2 a3 a4 c a6 a7 a8 a9=some r/\L4 x d c a2 a3 a4 r
 | 0,x,d,c,_,_,_,_,_,_,_,h1,h2,h3,h4=>by omega
 | k+1,x,d,c,a2,a3,a4,a6,a7,a8,a9,h1,h2,h3,h4=>by
  show ∃ r,L5 (zB k) x d a2 a3 a4 c a6 a7 a8 a9=some r/\_;unfold L5;have hz:=jM x;have hp:=BW x;have hd:=iO x;have hde:=fO x;have e1:aE .i64 ((c:Nat):Int) 1=((c+1:Nat):Int):=aq (by omega);simp only [e1];by_cases hc:c+1 > 256
  ·rw [show decide (((c+1:Nat):Int) > 256)=true from decide_eq_true (by omega),cond_true];exact ⟨_,rfl,rfl,by omega⟩
  rw [show decide (((c+1:Nat):Int) > 256)=false from decide_eq_false (by omega),cond_false];dsimp only [Option.bind];by_cases hdd:d > 16
  ·rw [show decide (((d:Nat):Int) > 16)=true from decide_eq_true (by omega),cond_true];exact ⟨_,rfl,rfl,by omega⟩
  rw [show decide (((d:Nat):Int) > 16)=false from decide_eq_false (by omega),cond_false];refine r8 257 (show 257 < 2 ^ 64 by omega) (fun i t=>i<=x.au.length/\t.1=a2/\t.2.1=a3/\t.2.2.1=a4/\t.2.2.2.1=((c+1+ef (x.au.take i):Nat):Int)/\c+1+ef (x.au.take i)<=256/\∀ (j:Nat) (h:j < x.au.length),j < i->d+1+gu x.au[j]<=17)
   (fun r=>match r with
    | .inl w=>L4 x d c a2 a3 a4 (.inr w)
    | .inr w=>L4 x d c a2 a3 a4 w) ⟨zaO _,rfl,rfl,rfl,by simp [ef],by simp [ef];omega,fun j _ h=>by omega⟩ ?_ ?_
  ·rintro i ⟨t1,t2,t3,t4,t5⟩ hi ⟨q1,q2,q3,q4,q5,q6,q7⟩;dsimp only at q2 q3 q4 q5;subst q2;subst q3;subst q4;subst q5;dsimp only;by_cases hl:i < x.au.length
   ·rw [bw (show ((i:Nat):Int) < (x.au.length:Int) by omega),cond_true,ax hl];dsimp only;rw [Q0 (show ((d:Nat):Int)<=16 by omega),cond_true,eta,aq (show d < 9223372036854775807 by omega)];obtain ⟨r,r1,r2⟩:=DU k x.au[i] (d+1) (c+1+ef (x.au.take i)) t1 t2 t3 t5 a7 a8 a9 (by omega) (by omega) q6 (by omega);rw [r1];have hT:=tJ x.au i hl;have hB:=rY x.au i q1
    cases r with
    | inl w=>
     refine .inr ⟨_,rfl,?_⟩;refine ⟨r2.1,fun hh=>r2.2 ?_⟩;have g1:=BX x.au (i+1);have g2:=(fh (d:=16 - d) x.au).1 (by omega) i hl;omega
    | inr w=>
     obtain ⟨s1,s2,s3,s4,s5,s6⟩:=r2;refine .inl ⟨(w.1,w.2.1,w.2.2.1,w.2.2.2.1,w.2.2.2.2),by omega,by rw [<-aq (show i < 9223372036854775807 by omega)];rfl,by omega,s1,s2,s3,by rw [s4,hT];congr 1;omega,by omega,fun j hj hji=>?_⟩;by_cases e:j=i
     ·subst e;omega
     ·exact q7 j hj (by omega)
   ·have e:i=x.au.length:=by omega
    subst e;rw [bg (by omega),cond_false];refine .inr ⟨_,rfl,rfl,rfl,rfl,?_,?_⟩
    ·show ((c+1+ef (x.au.take x.au.length):Nat):Int)=_;rw [DT,hz];congr 1;omega
    ·rw [DT] at q6;have:=(fh (d:=16 - d) x.au).2 fun j hj=>by have:=q7 j hj hj;omega
     omega
  ·intro r hr
   cases r with
   | inl w=>exact ⟨_,rfl,hr⟩
   | inr w=>exact ⟨w,rfl,hr⟩
theorem GH (x:ai):∃ a b,QO x=some (a,b,decide (ud x<=256/\gu x<=16)):=by
 unfold QO LL;rw [eta];obtain ⟨r,h1,h2⟩:=DU fuel x 1 0 0 0 false 0 x.Op x.Index x.au (by omega) (by omega) (by omega) (show 18<=2 ^ 64+1 by omega);have h1:zB fuel x 1 0 0 false 0 0 x.Op x.Index x.au=some r:=h1;rw [h1]
 cases r with
 | inl w=>
  obtain ⟨h3,h4⟩:=h2;refine ⟨w.1,w.2.1,?_⟩;show some (w.1,w.2.1,w.2.2.1)=_;rw [h3,decide_eq_false (by omega)]
 | inr w=>
  obtain ⟨_,_,_,_,h5,h6⟩:=h2;refine ⟨w.2.2.2.1,w.2.2.2.2,?_⟩;show some (w.2.2.2.1,w.2.2.2.2,true)=_;rw [decide_eq_true (by omega)]
end ck
end
section
namespace ck
open Go Go.Pl
theorem j7 {α:Type} (b:Bool) (x y:α):(bif b then some x else some y)=some (bif b then x else y):=by cases b<;>rfl
theorem Az (x:ai) (n:Int):∃ v,qL x n=some v:=by
 unfold qL;simp only [j7,za];exact ⟨_,rfl⟩
theorem Es {α β:Type} (f:α->β) (g:Nat->Option α):∀ l:List Nat,l.findSome? (fun j=>(g j).map f)=(l.findSome? g).map f
 | []=>rfl
 | x::l=>by
  rw [zaY,zaY,Es f g l]
  cases g x<;>rfl
theorem Ks {α β:Type} (f:α->β) (g:Nat->Option α) (n:Nat):first n (fun j=>(g j).map f)=(first n g).map f:=Es f g _
theorem M7 {n:Int} (h0:0<=n) (h1:n<=256):∀ (k1 k2:Nat) (x:ai) (d:Nat) (a2 a4 a5:Int) (a6:List ai),ud x<=256->d+gu x<=17->1<=d->18<=k1+d->gu x<=k2->
 ∃ v,ld k2 x n=some v/\pT k1 x d a2 n a4 a5 a6=some (if v=0 then .inr a2 else .inl v)
 | 0,_,x,d,_,_,_,_,_,_,_,_,_=>by have:=iO x;omega
 | _+1,0,x,d,_,_,_,_,_,_,_,_,_=>by have:=iO x;omega
 | k1+1,k2+1,x,d,a2,a4,a5,a6,hs,hd,KH,KX,hk2=>by
  have hz:=jM x;have hde:=fO x;have hl:=wC x.au;obtain ⟨v,hv⟩:=Az x n;have YY:K5 x n=some v:=by rw [RT x n h0 h1 (by omega),hv]
  show ∃ v,Bg (ld k2) x n=some v/\Gx (pT k1) x d a2 n a4 a5 a6=_;unfold Bg Gx;rw [eta,hv,YY];dsimp only [Option.bind];by_cases JC:v=0
  case neg=>
   rw [show (v !=0)=true from bne_iff_ne.2 JC,cond_true,cond_true];exact ⟨v,rfl,by rw [if_neg JC]⟩
  subst JC;rw [show ((0:Int) !=0)=false from rfl,cond_false,cond_false];have child:∀ (i:Nat) (hi:i < x.au.length),∃ w,ld k2 x.au[i] n=some w/\pT k1 x.au[i] ((d+1:Nat):Int) a2 n a4 a5 a6=some (if w=0 then .inr a2 else .inl w):=fun i hi=>by
   have g1:=oq x.au i hi;have g2:=(fh (d:=16 - d) x.au).1 (by omega) i hi;have g3:=(fh (d:=k2) x.au).1 (by omega) i hi;exact M7 h0 h1 k1 k2 x.au[i] (d+1) a2 a4 a5 a6 (by omega) (by omega) (by omega) (by omega) g3
  let g:Nat->Option Int:=fun j=>(x.au[j]?).bind fun y=>(ld k2 y n).bind fun w=>if w=0 then none else some w
  have hg:∀ (i:Nat) (hi:i < x.au.length) (w:Int),ld k2 x.au[i] n=some w->g i=if w=0 then none else some w:=fun i hi w hw=>by
   show (x.au[i]?).bind _=_;rw [za1 hi];show (ld k2 x.au[i] n).bind _=_;rw [hw];rfl
  rw [bp (s0:=(0:Int)) (fun j:Nat=>(j:Int)) g x.au.length (show x.au.length < 2 ^ 64 by omega) () rfl (fun i hi _=>by
   obtain ⟨w,c1,_⟩:=child i hi;rw [hg i hi w c1,bw (show ((i:Nat):Int) < (x.au.length:Int) by omega),cond_true,ax hi];dsimp only;rw [eta,c1];dsimp only;by_cases hw:w=0
   ·subst hw;rw [show ((0:Int) !=0)=false from rfl,cond_false,if_pos rfl,aq (by omega)]
   ·rw [show (w !=0)=true from bne_iff_ne.2 hw,cond_true,if_neg hw]) (fun _=>by rw [bg (by omega),cond_false])]
  rw [bp (s0:=((0:Int),a2)) (fun j:Nat=>((j:Int),a2)) (fun j=>(g j).map (fun w=>(Sum.inl w:Int⊕Int))) x.au.length (show x.au.length < 2 ^ 64 by omega) a2 rfl (fun i hi _=>by
   obtain ⟨w,c1,c2⟩:=child i hi;dsimp only;rw [hg i hi w c1,bw (show ((i:Nat):Int) < (x.au.length:Int) by omega),cond_true,ax hi];dsimp only;rw [Q0 (show ((d:Nat):Int)<=16 by omega),cond_true,eta,aq (show d < 9223372036854775807 by omega),c2];by_cases hw:w=0
   ·subst hw;rw [if_pos rfl,if_pos rfl];dsimp only [Sum.elim_inr,Option.map];rw [aq (by omega)]
   ·rw [if_neg hw,if_neg hw];rfl) (fun _=>by dsimp only;rw [bg (by omega),cond_false]),Ks]
  cases hf:first x.au.length g with
  | none=>exact ⟨0,rfl,rfl⟩
  | some w=>
   have hw:w≠0:=by
    rintro rfl;obtain ⟨k,_,hk⟩:=zae hf;obtain ⟨y,_,hk⟩:=zbf.1 hk;obtain ⟨u,_,hk⟩:=zbf.1 hk;split at hk
    ·cases hk
    ·rename_i hn;injection hk with hk;exact hn hk
   exact ⟨w,rfl,by rw [if_neg hw];rfl⟩
end ck
end
section
namespace ck
open Go Go.Pl
theorem BO (x:ai) (n:Int):JG x n=uR x n:=by
 unfold JG uR;by_cases h0:n < 0
 ·rw [bw h0,cond_true,cond_true];rfl
 rw [bg h0,cond_false,cond_false];dsimp only [Option.bind];by_cases h1:n > 256
 ·rw [decide_eq_true h1,cond_true,cond_true]
 rw [decide_eq_false h1,cond_false,cond_false,eta,rZ];obtain ⟨a,b,hm⟩:=GH x;rw [hm];dsimp only;by_cases hl:ud x<=256/\gu x<=16
 ·rw [decide_eq_true hl,zb1,cond_false,cond_false];unfold F5 Q7;obtain ⟨v,h2,h3⟩:=M7 (n:=n) (by omega) (by omega) fuel fuel x 1 0 x.Op x.Index x.au hl.1 (by omega) (by omega) (show 18<=2 ^ 64+1 by omega) (show gu x<=2 ^ 64 by omega);have h3:pT fuel x 1 0 n x.Op x.Index x.au=some (if v=0 then .inr 0 else .inl v):=h3;rw [h2,h3];by_cases hv:v=0
  ·subst hv;rfl
  ·rw [if_neg hv];rfl
 ·rw [decide_eq_false hl,Bool.not_false,cond_true,cond_true]
end ck
end
section
namespace ck
open Go Go.Pl
theorem ND (c:an) (h1:1<=c.U) (h6:c.U<=6) (l:Int) (h0:0<=l):QC c l=uP c l:=by
 unfold QC uP pK qJ;have e:dF .i64 2 c.U=2*c.U:=gI (by omega) (by omega);rw [e];dsimp only [Option.bind];by_cases hl:l < 2*c.U
 ·rw [bw hl,cond_true,cond_true];have:l=0\/l=1\/l=2\/l=3\/l=4\/l=5\/l=6\/l=7\/l=8\/l=9\/l=10\/l=11:=by omega
  clear hl;rcases this with rfl | rfl | rfl | rfl | rfl | rfl | rfl | rfl | rfl | rfl | rfl | rfl<;>(clear h0 h1 h6 e;show _=_;first | rfl | decide | (show (_:Option (List UInt8))=_;kernel_rfl))
 ·rw [bg hl,cond_false,cond_false]
end ck
end
section
namespace ck
open Go Go.Pl
mutual
def CE (i:Int):ai->Bool
 | ⟨op,ix,l⟩=>if op=1 then ix==i else occs i l
def occs (i:Int):List ai->Bool
 | []=>false
 | x::l=>CE i x||occs i l
end
theorem Ws (i:Int) (x:ai):CE i x=if x.Op=1 then x.Index==i else occs i x.au:=by cases x;rw [CE]
theorem Dz (i:Int):∀ l:List ai,occs i l=l.any (CE i)
 | []=>by simp [occs]
 | x::l=>by rw [occs,Dz i l,zc1]
theorem z5 (i:Int):∀ (k:Nat) (x:ai),ud x<=256->gu x<=k->QV k x i=some (CE i x)
 | 0,x,_,h=>by have:=iO x;omega
 | k+1,x,hs,hk=>by
  have hz:=jM x;have hde:=fO x;have hl:=wC x.au;show Vk (QV k) x i=_;unfold Vk;rw [Ws];by_cases ho:x.Op=1
  ·rw [show (x.Op==1)=true from beq_iff_eq.2 ho,cond_true,if_pos ho]
  rw [show (x.Op==1)=false from beq_eq_false_iff_ne.2 ho,cond_false,if_neg ho];rw [dY (s0:=(0:Int)) x.au (fun y=>if CE i y then some true else none) (show x.au.length < 2 ^ 64 by omega) () rfl (fun j hj=>by
   have g1:=oq x.au j hj;have g2:=(fh (d:=k) x.au).1 (by omega) j hj;rw [bw (show ((j:Nat):Int) < (x.au.length:Int) by omega),cond_true,ax hj];dsimp only [Option.bind];rw [eta,z5 i k x.au[j] (by omega) g2];dsimp only
   cases CE i x.au[j]
   ·rw [cond_false,aq (by omega)];rfl
   ·rfl) (by rw [bg (by omega),cond_false])]
  rw [Dz]
  cases hf:x.au.findSome? (fun y=>if CE i y then some true else none) with
  | none=>
   rw [zbt] at hf;show some false=_;congr 1;refine (zbd.2 fun y hy h=>?_).symm;have:=hf y hy;rw [if_pos h] at this;cases this
  | some b=>
   obtain ⟨y,hy,hb⟩:=zae hf;split at hb
   ·rename_i h;injection hb with hb;subst hb
    show some true=_;congr 1;exact (zbq.2 ⟨y,hy,h⟩).symm
   ·cases hb
end ck
end
section
namespace ck
open Go Go.Pl
def sm (n:Int):Bool:=decide (97<=n)&&decide (n<=122)
def gd (n:Int):Bool:=sm n||((decide (65<=n)&&decide (n<=90))||((decide (48<=n)&&decide (n<=57))||n==95))
theorem Rw (n:Int):QM n=some (gd n):=by
 unfold QM gd sm;simp only [ge_iff_le];generalize decide (97<=n)=a;generalize decide (n<=122)=b;generalize decide (65<=n)=c;generalize decide (n<=90)=d;generalize decide (48<=n)=e;generalize decide (n<=57)=f;generalize (n==95)=g
 cases a<;>cases b<;>cases c<;>cases d<;>cases e<;>cases f<;>cases g<;>rfl
theorem TN {n:Int} (h:gd n=true):n<=122:=by
 unfold gd sm at h;simp only [zat,za0,decide_eq_true_eq,beq_iff_eq] at h;omega
def g8 (s:List UInt8):Bool:=match s with
 | []=>false
 | b::l=>sm b.toNat&&s.all fun c=>gd c.toNat
theorem TP (l:List UInt8) (k:Nat) (h:k < l.length):(ByteArray.mk l.toArray).get! k=l[k]:=by
 show (l.toArray)[k]! =l[k];rw [getElem!_pos l.toArray k (by simpa using h)];simp
theorem Wg (l:List UInt8) (k:Nat) (h:k < l.length) (hb:l[k].toNat < 128):sG l (k:Int)=((l[k].toNat:Int),((k+1:Nat):Int)):=by
 unfold sG Utf8.decode;rw [zaw];simp only [zb7,TP l k h,hb,if_true]
theorem Wh (l:List UInt8) (k:Nat) (h:k < l.length) (hb:¬ l[k].toNat < 128):(122:Int) < (sG l (k:Int)).1:=by
 unfold sG Utf8.decode;rw [zaw];simp only [zb7,TP l k h,hb,if_false];split
 ·split<;>simp only [Utf8.runeError]<;>omega
 split
 ·split
  ·rename_i hh;simp only [za0,decide_eq_true_eq] at hh;omega
  ·simp only [Utf8.runeError];omega
 split
 ·split
  ·rename_i hh;simp only [za0,decide_eq_true_eq] at hh;omega
  ·simp only [Utf8.runeError];omega
 ·simp only [Utf8.runeError];omega
theorem wrap_u8 {n:Int} (h0:0<=n) (h1:n < 256):IntKind.u8.wrap n=n:=by
 unfold IntKind.wrap;have e1:(2:Int) ^ IntKind.u8.bits=256:=by decide
 simp only [e1,IntKind.signed,Bool.false_and,za9,if_false];omega
theorem contains_eq (s:List UInt8) (hs:s.length < 2 ^ 63):nQ s=some (!s.all fun c=>gd c.toNat):=by
 unfold nQ xg xe;rw [bp (s0:=(s,(0:Int))) (fun k:Nat=>(s,(k:Int))) (fun k=>s[k]?.bind fun c=>if gd c.toNat then none else some (k:Int)) s.length (show s.length < 2 ^ 64 by omega) () rfl (fun k hk _=>by
  dsimp only;rw [zaw,show Nat.blt k s.length=true from by rw [zbV];exact hk,cond_true,za1 hk];dsimp only [Option.bind];by_cases hb:s[k].toNat < 128
  ·rw [Wg s k hk hb];unfold QN;dsimp only;by_cases h1:s[k].toNat > 122
   ·rw [decide_eq_true (show ((s[k].toNat:Nat):Int) > 122 by omega),cond_true];have:gd s[k].toNat=false:=by
     cases hg:gd s[k].toNat
     ·rfl
     ·have:=TN hg;omega
    rw [this];rfl
   ·rw [decide_eq_false (show ¬ ((s[k].toNat:Nat):Int) > 122 by omega),cond_false,wrap_u8 (by omega) (by omega),Rw]
    cases hg:gd (s[k].toNat:Int)<;>rfl
  ·have h1:=Wh s k hk hb;unfold QN;rw [decide_eq_true (show (sG s (k:Int)).1 > 122 from h1),cond_true];have:gd s[k].toNat=false:=by
    cases hg:gd s[k].toNat
    ·rfl
    ·have:=TN hg;omega
   rw [this];rfl) (fun _=>by
  dsimp only;rw [zaw,show Nat.blt s.length s.length=false from by rw [Bool.eq_false_iff];intro h;rw [zbV] at h;omega,cond_false])]
 cases hf:first s.length (fun k=>s[k]?.bind fun c=>if gd c.toNat then none else some (k:Int)) with
 | none=>
  rw [bC] at hf;have:s.all (fun c=>gd c.toNat)=true:=zaf.2 fun x hx=>by
   obtain ⟨i,hi,rfl⟩:=zaE hx;have:=hf i hi;rw [za1 hi] at this
   cases hg:gd (s[i].toNat:Int)
   ·simp [hg] at this
   ·rfl
  rw [this];rfl
 | some r=>
  obtain ⟨k,hk,hr⟩:=zae hf;have hk:=zac.1 hk;rw [za1 hk] at hr
  cases hg:gd (s[k].toNat:Int)
  case true=>simp [hg] at hr
  simp only [za,hg,za9,if_false,za2] at hr;subst hr;have:s.all (fun c=>gd c.toNat)=false:=List.all_eq_false.2 ⟨s[k],zax hk,by rw [hg];simp⟩;rw [this];show some (decide ((k:Int)≥0))=_;rw [decide_eq_true (by omega)];rfl
theorem Rx (s:List UInt8) (hs:s.length < 2 ^ 63):Ve s=some (g8 s):=by
 unfold Ve;have e0:∀ k:Nat,(((k:Nat):Int)==0)=decide (k=0):=fun k=>by
  rw [Bool.eq_iff_iff,beq_iff_eq,decide_eq_true_eq];omega
 rw [bp (s0:=(0:Int)) (fun k:Nat=>(k:Int)) (fun k=>s[k]?.bind fun c=>if (decide (k=0)&& !sm c.toNat)|| !gd c.toNat then some false else none) s.length (show s.length < 2 ^ 64 by omega) () rfl (fun k hk _=>by
  rw [bw (show ((k:Nat):Int) < (s.length:Int) by omega),cond_true,ax hk,za1 hk,e0];dsimp only [Option.bind];generalize ((s[k].toNat:Nat):Int)=n;rw [aq (by omega),show decide (n < 48)= !decide (48<=n) from by rw [<-decide_not];congr 1;exact propext (by omega),show decide (n > 57)= !decide (n<=57) from by rw [<-decide_not];congr 1;exact propext (by omega)];unfold gd sm;simp only [ge_iff_le,bne];generalize decide (97<=n)=a;generalize decide (n<=122)=b;generalize decide (65<=n)=c;generalize decide (n<=90)=d;generalize decide (48<=n)=e;generalize decide (n<=57)=f;generalize (n==95)=g;generalize decide (k=0)=z
  cases a<;>cases b<;>cases c<;>cases d<;>cases e<;>cases f<;>cases g<;>cases z<;>rfl) (fun _=>by
  rw [bg (by omega),cond_false])]
 cases hf:first s.length (fun k=>s[k]?.bind fun c=>if (decide (k=0)&& !sm c.toNat)|| !gd c.toNat then some false else none) with
 | none=>
  rw [bC] at hf
  cases s with
  | nil=>rfl
  | cons b l=>
   have ha:((b::l).all fun c=>gd c.toNat)=true:=zaf.2 fun x hx=>by
    obtain ⟨i,hi,rfl⟩:=zaE hx;have:=hf i hi;rw [za1 hi] at this
    cases hg:gd ((b::l)[i].toNat:Int)
    ·simp only [za,hg,Bool.not_false,zbK,if_true] at this;cases this
    ·rfl
   have hb:=hf 0 (by simp);have hs:sm (b.toNat:Int)=true:=by
    cases hg:sm (b.toNat:Int)
    ·simp [hg] at hb
    ·rfl
   show some true=some (sm b.toNat&&(b::l).all fun c=>gd c.toNat);rw [ha,hs];rfl
 | some r=>
  obtain ⟨k,hk,hr⟩:=zae hf;have hk:=zac.1 hk;rw [za1 hk] at hr;simp only [za] at hr;split at hr
  case isFalse=>cases hr
  rename_i hc;injection hr with hr;subst hr
  show some false=_;congr 1
  cases s with
  | nil=>simp at hk
  | cons b l=>
   show false=(sm b.toNat&&(b::l).all fun c=>gd c.toNat);simp only [zat,za0,decide_eq_true_eq,zbe] at hc;rcases hc with ⟨h0,h1⟩ | h1
   ·subst h0;rw [show sm (b.toNat:Int)=false from h1];rfl
   ·have:((b::l).all fun c=>gd c.toNat)=false:=List.all_eq_false.2 ⟨(b::l)[k],zax hk,by rw [h1];simp⟩;rw [this,Bool.and_false]
end ck
end
section
namespace ck
open Go Go.Pl
abbrev MP:=List (List UInt8×Int)
theorem dB:∀ L:MP,List.zip (L.map (·.1)) (L.map (·.2))=L
 | []=>rfl
 | x::L=>by rw [za5,za5,List.zip_cons_cons,dB L]
theorem IJ (x:List UInt8):∀ L:MP,(Hl x L).isSome=decide (x∈L.map (·.1))
 | []=>rfl
 | p::L=>by
  unfold Hl;by_cases h:x=p.1
  ·rw [if_pos h];simp [h]
  ·rw [if_neg h,IJ x L];simp [h]
theorem BV (x:List UInt8) (v:Int) (y:List UInt8):∀ L:MP,y∈(Fs x v L).map (·.1)↔y=x\/y∈L.map (·.1)
 | []=>by simp [Fs]
 | p::L=>by
  unfold Fs;by_cases h:x=p.1
  ·rw [if_pos h];simp [h]
  ·rw [if_neg h,za5,zad,BV x v y L,za5,zad];constructor
   ·rintro (h | h | h)
    ·exact .inr (.inl h)
    ·exact .inl h
    ·exact .inr (.inr h)
   ·rintro (h | h | h)
    ·exact .inr (.inl h)
    ·exact .inl h
    ·exact .inr (.inr h)
def Us (s:List UInt8) (taken:Bool):Int:=if g8 s then (if (s.length:Int) > 24 then 17 else if taken then 7 else 0) else 3
theorem Si (s:List UInt8) (L:MP) (a3:Int) (a4:List (List UInt8)) (a5:List aS) (a6 a7:List Int) (hs:s.length < 2 ^ 63):
 ∃ L':MP,zA s (L.map (·.1)) (L.map (·.2)) a3 a4 a5 a6 a7=some (.inl (Us s (decide (s∈L.map (·.1))),L'.map (·.1),L'.map (·.2),a3,a4,a5,a6,a7))/\
  (Us s (decide (s∈L.map (·.1)))=0->∀ y,y∈L'.map (·.1)↔y=s\/y∈L.map (·.1)):=by
 have h0:((bif (s==[]) then some (true,((List.zip (L.map (·.1)) (L.map (·.2))).map (·.1)),((List.zip (L.map (·.1)) (L.map (·.2))).map (·.2)),a3,a4,a5,a6,a7) else (idx s 0).bind fun v2=>(bif (decide ((v2.toNat:Int) < 97)) then some (true,((List.zip (L.map (·.1)) (L.map (·.2))).map (·.1)),((List.zip (L.map (·.1)) (L.map (·.2))).map (·.2)),a3,a4,a5,a6,a7) else (idx s 0).bind fun v3=>(bif (decide ((v3.toNat:Int) > 122)) then some (true,((List.zip (L.map (·.1)) (L.map (·.2))).map (·.1)),((List.zip (L.map (·.1)) (L.map (·.2))).map (·.2)),a3,a4,a5,a6,a7) else (nQ s).bind fun v4=>some (v4,((List.zip (L.map (·.1)) (L.map (·.2))).map (·.1)),((List.zip (L.map (·.1)) (L.map (·.2))).map (·.2)),a3,a4,a5,a6,a7)))):Option (Bool×(List (List UInt8))×(List Int)×Int×(List (List UInt8))×(List aS)×(List Int)×(List Int)))=some (!g8 s,L.map (·.1),L.map (·.2),a3,a4,a5,a6,a7):=by
  simp only [dB,contains_eq s hs]
  cases s with
  | nil=>rfl
  | cons b l=>
   have e:idx (b::l) 0=some b:=rfl;rw [e];show (bif false then _ else _)=_;rw [cond_false];dsimp only [Option.bind];by_cases h1:(b.toNat:Int) < 97
   ·rw [bw h1,cond_true];have:sm b.toNat=false:=by unfold sm;rw [decide_eq_false (by omega)];rfl
    show _=some (!(sm b.toNat&&_),_);rw [this];rfl
   rw [bg h1,cond_false];by_cases h2:(b.toNat:Int) > 122
   ·rw [decide_eq_true h2,cond_true];have:sm b.toNat=false:=by unfold sm;rw [decide_eq_false (p:=(b.toNat:Int)<=122) (by omega),Bool.and_false]
    show _=some (!(sm b.toNat&&_),_);rw [this];rfl
   rw [decide_eq_false h2,cond_false];have:sm b.toNat=true:=by unfold sm;rw [decide_eq_true (by omega),decide_eq_true (by omega)];rfl
   show _=some (!(sm b.toNat&&_),_);rw [this,zaS]
 unfold zA;rw [h0];dsimp only [Option.bind];simp only [dB,IJ];unfold Us
 cases hw:g8 s
 ·exact ⟨L,rfl,fun h=>by cases h⟩
 rw [zb1,cond_false,if_pos rfl];by_cases hl:(s.length:Int) > 24
 ·rw [decide_eq_true hl,cond_true,if_pos hl];exact ⟨L,rfl,fun h=>by cases h⟩
 rw [decide_eq_false hl,cond_false,if_neg hl]
 cases ht:decide (s∈L.map (·.1))
 ·rw [cond_false];dsimp only;rw [cond_false];simp only [dB];exact ⟨_,rfl,fun _ y=>BV _ _ _ _⟩
 ·rw [cond_true];dsimp only;rw [cond_true];simp only [dB,if_true];exact ⟨L,rfl,fun h=>by cases h⟩
end ck
end
section
namespace ck
open Go Go.Pl
mutual
def Ft (n:Int):ai->Prop
 | ⟨op,ix,l⟩=>(op=1->0<=ix/\ix < n/\l=[])/\A6 n l
def A6 (n:Int):List ai->Prop
 | []=>True
 | x::l=>Ft n x/\A6 n l
end
mutual
def m9 (p:Int->Bool):ai->Bool
 | ⟨op,ix,l⟩=>(op==1&&p ix)||gi p l
def gi (p:Int->Bool):List ai->Bool
 | []=>false
 | x::l=>m9 p x||gi p l
end
theorem wv (n:Int) (x:ai):Ft n x=((x.Op=1->0<=x.Index/\x.Index < n/\x.au=[])/\A6 n x.au):=by cases x;rw [Ft]
theorem vg (p:Int->Bool) (x:ai):m9 p x=((x.Op==1&&p x.Index)||gi p x.au):=by cases x;rw [m9]
theorem nN (n:Int):∀ l:List ai,A6 n l↔∀ (i:Nat) (h:i < l.length),Ft n l[i]
 | []=>by simp [A6]
 | x::l=>by
  rw [A6,nN n l];constructor
  ·rintro ⟨h1,h2⟩ i hi
   cases i with
   | zero=>exact h1
   | succ i=>exact h2 i (by simpa using hi)
  ·intro h;exact ⟨h 0 (by simp),fun i hi=>h (i+1) (by simpa using hi)⟩
theorem x8 (p:Int->Bool):∀ (l:List ai) (i:Nat) (h:i < l.length),gi p (l.take (i+1))=(gi p (l.take i)||m9 p l[i])
 | x::l,0,h=>by simp [gi]
 | x::l,i+1,h=>by
  have:=x8 p l i (by simpa using h);simp only [zbZ,gi,zbQ,this,Bool.or_assoc]
mutual
theorem IC (p:Int->Bool) (n:Int):∀ x:ai,Ft n x->(m9 p x=true↔∃ j,(0<=j/\j < n)/\p j=true/\CE j x=true)
 | ⟨op,ix,l⟩,h=>by
  rw [Ft] at h;rw [m9,zat,za0,beq_iff_eq,Ez p n l h.2];by_cases ho:op=1
  ·obtain ⟨h1,h2,h3⟩:=h.1 ho;subst h3;constructor
   ·rintro (⟨_,hp⟩ | ⟨j,_,_,hj⟩)
    ·exact ⟨ix,⟨h1,h2⟩,hp,by rw [CE,if_pos ho,beq_iff_eq]⟩
    ·simp [occs] at hj
   ·rintro ⟨j,_,hp,hj⟩;rw [CE,if_pos ho,beq_iff_eq] at hj;subst hj;exact .inl ⟨ho,hp⟩
  ·constructor
   ·rintro (⟨h1,_⟩ | ⟨j,h1,h2,hj⟩)
    ·exact (ho h1).elim
    ·exact ⟨j,h1,h2,by rw [CE,if_neg ho];exact hj⟩
   ·rintro ⟨j,h1,hp,hj⟩;rw [CE,if_neg ho] at hj;exact .inr ⟨j,h1,hp,hj⟩
theorem Ez (p:Int->Bool) (n:Int):∀ l:List ai,A6 n l->(gi p l=true↔∃ j,(0<=j/\j < n)/\p j=true/\occs j l=true)
 | [],_=>by simp [gi,occs]
 | x::l,h=>by
  rw [A6] at h;rw [gi,zat,IC p n x h.1,Ez p n l h.2];constructor
  ·rintro (⟨j,h1,h2,h3⟩ | ⟨j,h1,h2,h3⟩)
   ·exact ⟨j,h1,h2,by rw [occs,h3,Bool.true_or]⟩
   ·exact ⟨j,h1,h2,by rw [occs,h3,zbK]⟩
  ·rintro ⟨j,h1,h2,h3⟩;rw [occs,zat] at h3;rcases h3 with h3 | h3
   ·exact .inl ⟨j,h1,h2,h3⟩
   ·exact .inr ⟨j,h1,h2,h3⟩
end
theorem P1 {x:ai} {n:Int} (h:qL x n=some 0) (ho:x.Op=1):0<=x.Index/\x.Index < n/\x.au=[]:=by
 obtain ⟨op,ix,l⟩:=x;dsimp only at ho;subst ho;unfold qL at h;dsimp only at h ⊢;simp only [j7,za] at h;by_cases hl:(l.length:Int)=0
 ·have e:l=[]:=zbA (by omega);subst e;by_cases h1:ix < 0
  ·simp [h1] at h
  by_cases h2:ix≥n
  ·simp [h1,h2] at h
  exact ⟨by omega,by omega,rfl⟩
 ·have:((l.length:Int) !=0)=true:=bne_iff_ne.2 hl;simp [this] at h
theorem xU (n:Int):∀ (k:Nat) (x:ai),ud x<=256->gu x<=k->∃ v,ld k x n=some v/\(v=0->Ft n x)
 | 0,x,_,h=>by have:=iO x;omega
 | k+1,x,hs,hk=>by
  have hz:=jM x;have hde:=fO x;have hl:=wC x.au;show ∃ v,Bg (ld k) x n=some v/\_;unfold Bg;rw [eta];obtain ⟨v,hv⟩:=Az x n;rw [hv];dsimp only [Option.bind];by_cases JC:v=0
  case neg=>
   rw [show (v !=0)=true from bne_iff_ne.2 JC,cond_true];exact ⟨v,rfl,fun h=>(JC h).elim⟩
  subst JC;rw [show ((0:Int) !=0)=false from rfl,cond_false];have child:∀ (i:Nat) (hi:i < x.au.length),∃ w,ld k x.au[i] n=some w/\(w=0->Ft n x.au[i]):=fun i hi=>by
   have g1:=oq x.au i hi;have g2:=(fh (d:=k) x.au).1 (by omega) i hi;exact xU n k x.au[i] (by omega) g2
  let g:Nat->Option Int:=fun j=>(x.au[j]?).bind fun y=>(ld k y n).bind fun w=>if w=0 then none else some w
  have hg:∀ (i:Nat) (hi:i < x.au.length) (w:Int),ld k x.au[i] n=some w->g i=if w=0 then none else some w:=fun i hi w hw=>by
   show (x.au[i]?).bind _=_;rw [za1 hi];show (ld k x.au[i] n).bind _=_;rw [hw];rfl
  rw [bp (s0:=(0:Int)) (fun j:Nat=>(j:Int)) g x.au.length (show x.au.length < 2 ^ 64 by omega) () rfl (fun i hi _=>by
   obtain ⟨w,c1,_⟩:=child i hi;rw [hg i hi w c1,bw (show ((i:Nat):Int) < (x.au.length:Int) by omega),cond_true,ax hi];dsimp only;rw [eta,c1];dsimp only;by_cases hw:w=0
   ·subst hw;rw [show ((0:Int) !=0)=false from rfl,cond_false,if_pos rfl,aq (by omega)]
   ·rw [show (w !=0)=true from bne_iff_ne.2 hw,cond_true,if_neg hw]) (fun _=>by rw [bg (by omega),cond_false])]
  cases hf:first x.au.length g with
  | none=>
   refine ⟨0,rfl,fun _=>?_⟩;rw [wv];refine ⟨P1 hv,(nN n _).2 fun i hi=>?_⟩;obtain ⟨w,c1,c2⟩:=child i hi;have:=bC.1 hf i hi;rw [hg i hi w c1] at this;by_cases hw:w=0
   ·exact c2 hw
   ·rw [if_neg hw] at this;cases this
  | some w=>
   refine ⟨w,rfl,?_⟩;rintro rfl;obtain ⟨j,_,hj⟩:=zae hf;obtain ⟨y,_,hj⟩:=zbf.1 hj;obtain ⟨u,_,hj⟩:=zbf.1 hj;split at hj
   ·cases hj
   ·rename_i hn;injection hj with hj;exact (hn hj).elim
theorem DD {x:ai} {n:Int} (h:uR x n=some 0):ud x<=256/\gu x<=16/\Ft n x:=by
 unfold uR at h;by_cases h0:n < 0
 ·rw [bw h0,cond_true] at h;exact absurd h (by simp)
 rw [bg h0,cond_false] at h;dsimp only [Option.bind] at h;by_cases h1:n > 256
 ·rw [decide_eq_true h1,cond_true] at h;exact absurd h (by simp)
 rw [decide_eq_false h1,cond_false,eta,rZ] at h;by_cases hl:ud x<=256/\gu x<=16
 ·obtain ⟨v,h2,h3⟩:=xU n fuel x hl.1 (show gu x<=2 ^ 64 by omega);have h2:Q7 x n=some v:=h2;rw [decide_eq_true hl] at h;dsimp only at h;rw [zb1,cond_false,h2] at h;injection h with h
  exact ⟨hl.1,hl.2,h3 h⟩
 ·rw [decide_eq_false hl] at h;exact absurd h (by simp)
theorem yA (x:ai) (n:Int):∃ v,uR x n=some v:=by
 unfold uR;by_cases h0:n < 0
 ·rw [bw h0,cond_true];exact ⟨_,rfl⟩
 rw [bg h0,cond_false];dsimp only [Option.bind];by_cases h1:n > 256
 ·rw [decide_eq_true h1,cond_true];exact ⟨_,rfl⟩
 rw [decide_eq_false h1,cond_false,eta,rZ];by_cases hl:ud x<=256/\gu x<=16
 ·obtain ⟨v,h2,h3⟩:=xU n fuel x hl.1 (show gu x<=2 ^ 64 by omega);have h2:Q7 x n=some v:=h2;rw [decide_eq_true hl];dsimp only;rw [zb1,cond_false,h2];exact ⟨_,rfl⟩
 ·rw [decide_eq_false hl];exact ⟨_,rfl⟩
end ck
end
section
namespace ck
open Go Go.Pl
structure cG (c:an):Prop where
 a1:1<=c.U
 a6:c.U<=6
 i:c.ay.length<=16
 s:c.aa.length<=64
def fl (c:an):Int:=2*c.U+c.ay.length
theorem cG.pK {c:an} (h:cG c):pK c=some (fl c):=by
 unfold ck.pK fl;have:=h.a1;have:=h.a6;have:=h.i;rw [gI (by omega) (by omega),bA (by omega) (by omega)]
theorem cG.qJ {c:an} (h:cG c):qJ c=some (fl c):=h.pK
theorem cG.nc {c:an} (h:cG c):nc c=some (fl c+c.aa.length):=by
 unfold ck.nc fl;have:=h.a1;have:=h.a6;have:=h.i;have:=h.s;rw [gI (by omega) (by omega),bA (x:=2*c.U) (by omega) (by omega),bA (by omega) (by omega)]
def lp (c:an) (i:Nat) (ix:Int):Bool:=decide (ix - fl c≥(i:Int))&&(match idx c.aa (ix - fl c) with | some s=>s.Kind==0 | none=>false)
theorem IB (L:MP) (c:an) (hc:cG c) (i:Nat):∀ (k:Nat) (x:ai) (b:Bool),ud x<=256->gu x<=k->Ft (fl c+c.aa.length) x->
 CY k x (L.map (·.1)) (L.map (·.2)) c.U c.ay c.aa c.bU c.aX b (i:Int)=some (.inl (L.map (·.1),L.map (·.2),c.U,c.ay,c.aa,c.bU,c.aX,b||m9 (lp c i) x,(i:Int)))
 | 0,x,_,_,h,_=>by have:=iO x;omega
 | k+1,x,b,hs,hk,hv=>by
  have hz:=jM x;have hde:=fO x;have hl:=wC x.au;rw [wv] at hv;show LW (CY k) x (L.map (·.1)) (L.map (·.2)) c.U c.ay c.aa c.bU c.aX b (i:Int)=_;unfold LW;have hm:pK (⟨c.U,c.ay,c.aa,c.bU,c.aX⟩:an)=some (fl c):=hc.pK;simp only [dB,hm,za];have h1:((bif (x.Op==1) then ((bif b then some (L.map (·.1),L.map (·.2),c.U,c.ay,c.aa,c.bU,c.aX,true,(i:Int)) else (bif (decide ((ct .i64 x.Index (fl c))≥(i:Int))) then (idx c.aa (ct .i64 x.Index (fl c))).bind fun v4=>some (L.map (·.1),L.map (·.2),c.U,c.ay,c.aa,c.bU,c.aX,(v4.Kind==0),(i:Int)) else some (L.map (·.1),L.map (·.2),c.U,c.ay,c.aa,c.bU,c.aX,false,(i:Int)))):Option ((List (List UInt8))×(List Int)×Int×(List (List UInt8))×(List aS)×(List Int)×(List Int)×Bool×Int)).bind fun w3=>some (((List.zip w3.1 w3.2.1).map (·.1)),((List.zip w3.1 w3.2.1).map (·.2)),w3.2.2.1,w3.2.2.2.1,w3.2.2.2.2.1,w3.2.2.2.2.2.1,w3.2.2.2.2.2.2.1,w3.2.2.2.2.2.2.2.1,w3.2.2.2.2.2.2.2.2) else some (L.map (·.1),L.map (·.2),c.U,c.ay,c.aa,c.bU,c.aX,b,(i:Int))):Option ((List (List UInt8))×(List Int)×Int×(List (List UInt8))×(List aS)×(List Int)×(List Int)×Bool×Int))=some (L.map (·.1),L.map (·.2),c.U,c.ay,c.aa,c.bU,c.aX,b||(x.Op==1&&lp c i x.Index),(i:Int)):=by
   cases ho:x.Op==1
   ·rw [cond_false,Bool.false_and,Bool.or_false]
   rw [cond_true,zaS];obtain ⟨r1,r2,r3⟩:=hv.1 (beq_iff_eq.1 ho);have:=hc.a1;have:=hc.a6;have:=hc.i;have:=hc.s;have hf:0<=fl c/\fl c<=28:=by unfold fl;omega
   cases b
   ·rw [cond_false,zbN,dI (by omega) (by omega)];unfold lp;by_cases hd:x.Index - fl c≥(i:Int)
    ·obtain ⟨q1,q2⟩:=kL (l:=c.aa) (i:=x.Index - fl c) (by omega) (by omega);rw [decide_eq_true hd,cond_true,q2];dsimp only [Option.bind];rw [dB,zaS]
    ·rw [decide_eq_false hd,cond_false];dsimp only [Option.bind];rw [dB,Bool.false_and]
   ·rw [cond_true];dsimp only [Option.bind];rw [dB,Bool.true_or]
  rw [h1];dsimp only [Option.bind];generalize hb:(b||(x.Op==1&&lp c i x.Index))=b1;rw [aT (s0:=((0:Int),((List.zip (L.map (·.1)) (L.map (·.2))).map (·.1)),((List.zip (L.map (·.1)) (L.map (·.2))).map (·.2)),c.U,c.ay,c.aa,c.bU,c.aX,b1,(i:Int))) (fun j:Nat=>((j:Int),L.map (·.1),L.map (·.2),c.U,c.ay,c.aa,c.bU,c.aX,b1||gi (lp c i) (x.au.take j),(i:Int))) x.au.length (show x.au.length < 2 ^ 64 by omega)
   (L.map (·.1),L.map (·.2),c.U,c.ay,c.aa,c.bU,c.aX,b1||gi (lp c i) x.au,(i:Int)) (by simp [dB,gi]) (fun j hj=>by
    dsimp only;have g1:=oq x.au j hj;have g2:=(fh (d:=k) x.au).1 (by omega) j hj;rw [bw (show ((j:Nat):Int) < (x.au.length:Int) by omega),cond_true,ax hj];dsimp only;rw [eta,dB,IB L c hc i k x.au[j] _ (by omega) g2 ((nN _ _).1 hv.2 j hj)];dsimp only [Sum.elim_inl];rw [dB,aq (by omega),x8 _ _ _ hj,Bool.or_assoc]) (by
    dsimp only;rw [bg (by omega),cond_false,dB,zbr])]
  dsimp only;rw [dB,<-hb,vg,Bool.or_assoc]
theorem Ii (c:an) (hc:cG c) (i:Nat) (hi:i < c.aa.length) (h1:ud c.aa[i].On<=256) (h2:gu c.aa[i].On<=16) (h3:Ft (fl c+c.aa.length) c.aa[i].On):
 QB c (i:Int)=some (m9 (lp c i) c.aa[i].On):=by
 unfold QB;have:=hc.a1;have:=hc.a6;have:=hc.i;have:=hc.s;have hf:0<=fl c/\fl c<=28:=by unfold fl;omega
 rw [bp (s0:=(i:Int)) (fun k:Nat=>((i+k:Nat):Int)) (fun k=>(c.aa[i+k]?).bind fun s=>if (s.Kind==0&&CE (fl c+((i+k:Nat):Int)) c.aa[i].On)=true then some true else none) (c.aa.length - i) (show c.aa.length - i < 2 ^ 64 by omega) () rfl (fun k hk _=>by
  have hk':i+k < c.aa.length:=by omega
  rw [bw (show (((i+k:Nat):Nat):Int) < (c.aa.length:Int) by omega),cond_true,ax hk',za1 hk',ax hi,hc.qJ];dsimp only [Option.bind];rw [eta,bA (by omega) (by omega)];unfold ZA;rw [z5 _ fuel c.aa[i].On h1 (show _<=2 ^ 64 by omega),aq (by omega)]
  cases c.aa[i+k].Kind==0
  ·rfl
  ·rw [cond_true];dsimp only
   cases CE (fl c+((i+k:Nat):Int)) c.aa[i].On<;>rfl) (fun _=>by
  rw [bg (by omega),cond_false])]
 have key:m9 (lp c i) c.aa[i].On=true↔∃ k,k < c.aa.length - i/\((c.aa[i+k]?).bind fun s=>if (s.Kind==0&&CE (fl c+((i+k:Nat):Int)) c.aa[i].On)=true then some true else none)=some true:=by
  rw [IC _ _ _ h3];constructor
  ·rintro ⟨j,⟨j0,j1⟩,hp,ho⟩;unfold lp at hp;simp only [za0,decide_eq_true_eq] at hp;obtain ⟨q1,q2⟩:=kL (l:=c.aa) (i:=j - fl c) (by omega) (by omega);rw [q2] at hp;dsimp only at hp;refine ⟨(j - fl c).toNat - i,by omega,?_⟩;have e:i+((j - fl c).toNat - i)=(j - fl c).toNat:=by omega
   rw [e,za1 q1];dsimp only [Option.bind];rw [if_pos];rw [hp.2,zaS,show fl c+(((j - fl c).toNat:Nat):Int)=j by omega];exact ho
  ·rintro ⟨k,hk,h⟩;have hk':i+k < c.aa.length:=by omega
   rw [za1 hk'] at h;dsimp only [Option.bind] at h;split at h
   ·rename_i hh;rw [za0] at hh;refine ⟨fl c+((i+k:Nat):Int),⟨by omega,by omega⟩,?_,hh.2⟩;unfold lp;rw [show fl c+((i+k:Nat):Int) - fl c=((i+k:Nat):Int) by omega,decide_eq_true (by omega),ax hk',zaS];exact hh.1
   ·cases h
 cases hf:first (c.aa.length - i) (fun k=>(c.aa[i+k]?).bind fun s=>if (s.Kind==0&&CE (fl c+((i+k:Nat):Int)) c.aa[i].On)=true then some true else none) with
 | none=>
  have:m9 (lp c i) c.aa[i].On=false:=by
   cases hv:m9 (lp c i) c.aa[i].On
   ·rfl
   ·obtain ⟨k,hk,h⟩:=key.1 hv;rw [bC.1 hf k hk] at h;cases h
  rw [this];rfl
 | some r=>
  obtain ⟨k,hk,hr⟩:=zae hf;have hk:=zac.1 hk;have UB:r=true:=by
   obtain ⟨s,_,hs⟩:=zbf.1 hr;split at hs
   ·injection hs with hs;exact hs.symm
   ·cases hs
  subst UB;rw [key.2 ⟨k,hk,hr⟩];rfl
end ck
end
section
namespace ck
open Go Go.Pl
structure vX (c:an):Prop where
 i:∀ (k:Nat) (h:k < c.ay.length),c.ay[k].length < 2 ^ 63
 s:∀ (k:Nat) (h:k < c.aa.length),c.aa[k].Name.length < 2 ^ 63
def nm (c:an) (k:Nat):List UInt8:=(uP c (k:Int)).getD []
theorem vf {c:an} {k:Nat} {v:List UInt8} (h:uP c (k:Int)=some v):nm c k=v:=by unfold nm;rw [h];rfl
theorem cG.Yb {c:an} (h:cG c):0<=fl c/\fl c<=28:=by
 unfold fl;have:=h.a1;have:=h.a6;have:=h.i;omega
theorem BB {c:an} (h:cG c) (ht:vX c) (k:Nat) (hk:(k:Int) < fl c+c.aa.length):uP c (k:Int)=some (nm c k)/\(nm c k).length < 2 ^ 63:=by
 suffices ∃ v,uP c (k:Int)=some v/\v.length < 2 ^ 63 by
  obtain ⟨v,h1,h2⟩:=this;rw [vf h1];exact ⟨h1,h2⟩
 have:=h.a1;have:=h.a6;have:=h.i;have:=h.s;unfold uP;rw [h.qJ,gI (by omega) (by omega)];dsimp only [Option.bind];by_cases hl:(k:Int) < 2*c.U
 ·rw [bw hl,cond_true];have:k=0\/k=1\/k=2\/k=3\/k=4\/k=5\/k=6\/k=7\/k=8\/k=9\/k=10\/k=11:=by omega
  clear hl hk;rcases this with rfl | rfl | rfl | rfl | rfl | rfl | rfl | rfl | rfl | rfl | rfl | rfl<;>exact ⟨_,rfl,by decide⟩
 rw [bg hl,cond_false];by_cases hf:(k:Int) < fl c
 ·have h0:=h.Yb;rw [bw hf,cond_true,dI (by omega) (by omega)];obtain ⟨q1,q2⟩:=kL (l:=c.ay) (i:=(k:Int) - 2*c.U) (by omega) (by unfold fl at hf;omega);rw [q2];exact ⟨_,rfl,ht.i _ q1⟩
 ·rw [bg hf,cond_false];have h0:=h.Yb;rw [dI (by omega) (by omega)];obtain ⟨q1,q2⟩:=kL (l:=c.aa) (i:=(k:Int) - fl c) (by omega) (by omega);rw [q2];exact ⟨_,rfl,ht.s _ q1⟩
theorem TC {c:an} (h:cG c) (i:Nat) (hi:i < c.ay.length) (k:Nat) (hk:(k:Int)=2*c.U+i):nm c k=c.ay[i]:=by
 apply vf
 have:=h.a1;have:=h.a6;have:=h.i;have:=h.s;unfold uP;rw [h.qJ,gI (by omega) (by omega)];dsimp only [Option.bind];rw [bg (by omega),cond_false,bw (by unfold fl;omega),cond_true,dI (by omega) (by omega),show (k:Int) - 2*c.U=(i:Nat) by omega,ax hi]
theorem MF {c:an} (h:cG c) (i:Nat) (hi:i < c.aa.length) (k:Nat) (hk:(k:Int)=fl c+i):nm c k=c.aa[i].Name:=by
 apply vf
 have:=h.a1;have:=h.a6;have:=h.i;have:=h.s;have:=h.Yb;unfold uP;rw [h.qJ,gI (by omega) (by omega)];dsimp only [Option.bind];rw [bg (by unfold fl at hk;omega),cond_false,bg (by omega),cond_false,dI (by omega) (by omega),show (k:Int) - fl c=(i:Nat) by omega,ax hi]
theorem wW {c:an} (h:cG c) (ht:vX c) (k:Nat) (hk:(k:Int) < fl c+c.aa.length):
 yU c (k:Int)=some (Us (nm c k) (decide (∃ j,j < k/\nm c j=nm c k))):=by
 unfold yU Us;obtain ⟨h1,h2⟩:=BB h ht k hk;rw [h1];dsimp only [Option.bind];rw [Rx _ h2];dsimp only
 cases hw:g8 (nm c k)
 ·rfl
 rw [zb1,cond_false,if_pos rfl];by_cases hl:((nm c k).length:Int) > 24
 ·rw [decide_eq_true hl,cond_true,if_pos hl]
 rw [decide_eq_false hl,cond_false,if_neg hl];have:=h.Yb;have:=h.s;rw [bp (s0:=(0:Int)) (fun j:Nat=>(j:Int)) (fun j=>if nm c j=nm c k then some 7 else none) k (show k < 2 ^ 64 by omega) () rfl (fun j hj _=>by
  rw [bw (show ((j:Nat):Int) < (k:Int) by omega),cond_true,(BB h ht j (by omega)).1];dsimp only;by_cases he:nm c j=nm c k
  ·rw [if_pos he,beq_iff_eq.2 he,cond_true]
  ·rw [if_neg he,beq_eq_false_iff_ne.2 he,cond_false,aq (by omega)]) (fun _=>by rw [bg (by omega),cond_false])]
 by_cases hx:∃ j,j < k/\nm c j=nm c k
 ·rw [decide_eq_true hx]
  cases hf:first k (fun j=>if nm c j=nm c k then some (7:Int) else none) with
  | none=>
   obtain ⟨j,hj,he⟩:=hx;have:=bC.1 hf j hj;rw [if_pos he] at this;cases this
  | some r=>
   obtain ⟨j,hj,hr⟩:=zae hf;split at hr
   ·injection hr with hr;subst hr;rfl
   ·cases hr
 ·rw [decide_eq_false hx,j8 (fun j hj=>by rw [if_neg (fun he=>hx ⟨j,hj,he⟩)])];rfl
def ja (c:an) (k:Nat) (L:MP):Prop:=∀ y,y∈L.map (·.1)↔∃ j,j < k/\nm c j=y
theorem ja.zero (c:an):ja c 0 []:=fun y=>⟨fun h=>by simp at h,fun ⟨j,h,_⟩=>by omega⟩
theorem ja.more {c:an} {k:Nat} {L L':MP} (h:ja c k L) (h':∀ y,y∈L'.map (·.1)↔y=nm c k\/y∈L.map (·.1)):ja c (k+1) L':=fun y=>by
 rw [h' y,h y];constructor
 ·rintro (rfl | ⟨j,h1,h2⟩)
  ·exact ⟨k,by omega,rfl⟩
  ·exact ⟨j,by omega,h2⟩
 ·rintro ⟨j,h1,h2⟩;by_cases e:j=k
  ·subst e;exact .inl h2.symm
  ·exact .inr ⟨j,by omega,h2⟩
theorem D3 {c:an} (h:cG c) (ht:vX c) (k:Nat) (hk:(k:Int) < fl c+c.aa.length) {L:MP} (hL:ja c k L):
 ∃ (e:Int) (L':MP),yU c (k:Int)=some e/\zA (nm c k) (L.map (·.1)) (L.map (·.2)) c.U c.ay c.aa c.bU c.aX=some (.inl (e,L'.map (·.1),L'.map (·.2),c.U,c.ay,c.aa,c.bU,c.aX))/\(e=0->ja c (k+1) L'):=by
 obtain ⟨L',h1,h2⟩:=Si (nm c k) L c.U c.ay c.aa c.bU c.aX (BB h ht k hk).2;have e:decide (nm c k∈L.map (·.1))=decide (∃ j,j < k/\nm c j=nm c k):=by
  rw [Bool.eq_iff_iff,decide_eq_true_eq,decide_eq_true_eq];exact hL _
 rw [e] at h1 h2;exact ⟨_,L',wW h ht k hk,h1,fun h0=>hL.more (h2 h0)⟩
end ck
end
section
namespace ck
open Go Go.Pl
theorem Vq (c:an):(⟨c.U,c.ay,c.aa,c.bU,c.aX⟩:an)=c:=rfl
theorem tE (x:ai):Lc x=some (x.Op==0&&(x.Index==0&&(x.au.length:Int)==0)):=by
 unfold Lc
 cases x.Op==0<;>cases x.Index==0<;>rfl
theorem RS {c:an} (h:cG c) (L:MP) (i:Nat) (hi:i < c.aa.length) (hx:uR c.aa[i].On (fl c+c.aa.length)=some 0):
 ∃ b,HI (i:Int) (L.map (·.1)) (L.map (·.2)) c.U c.ay c.aa c.bU c.aX=some (.inl ((if m9 (lp c i) c.aa[i].On then 9 else if (!(c.aa[i].jc.Op==0&&(c.aa[i].jc.Index==0&&(c.aa[i].jc.au.length:Int)==0))||c.aa[i].Init||c.aa[i].dD !=0) then 3 else 0),L.map (·.1),L.map (·.2),c.U,c.ay,c.aa,c.bU,c.aX,b,(i:Int))):=by
 obtain ⟨h1,h2,h3⟩:=DD hx;refine ⟨m9 (lp c i) c.aa[i].On,?_⟩;unfold HI LM;rw [ax hi,dB];dsimp only [Option.bind];rw [eta,IB L c h i fuel _ false h1 (show _<=2 ^ 64 by omega) h3];dsimp only [Sum.elim_inl];rw [zbN,eta,show K6 c.aa[i].jc=Lc c.aa[i].jc from rfl,tE];dsimp only
 cases m9 (lp c i) c.aa[i].On
 ·generalize (c.aa[i].jc.Op==0&&(c.aa[i].jc.Index==0&&(c.aa[i].jc.au.length:Int)==0))=z;generalize c.aa[i].Init=w;generalize (c.aa[i].dD !=0)=d;simp only [dB]
  cases z<;>cases w<;>cases d<;>simp [dB]
 ·rw [cond_true,dB];rfl
theorem JZ {c:an} (h:cG c) (L:MP) (i:Nat) (hi:i < c.aa.length) (e:Int) (hx:uR c.aa[i].jc (fl c+c.aa.length)=some e):
 HH (i:Int) (L.map (·.1)) (L.map (·.2)) c.U c.ay c.aa c.bU c.aX=some (.inl ((if e≠0 then e else if c.aa[i].dD≠0 then 3 else 0),L.map (·.1),L.map (·.2),c.U,c.ay,c.aa,c.bU,c.aX)):=by
 unfold HH;rw [ax hi,dB,Vq,show FH c=nc c from rfl,h.nc];dsimp only [Option.bind];rw [eta,BO,hx];dsimp only;by_cases he:e=0
 ·subst he;rw [show ((0:Int) !=0)=false from rfl,cond_false];by_cases hd:c.aa[i].dD=0
  ·rw [hd];rfl
  ·rw [bne_iff_ne.2 hd,cond_true];simp [hd]
 ·rw [bne_iff_ne.2 he,cond_true];simp [he]
theorem OD {c:an} (L:MP) (i:Nat) (hi:i < c.aa.length):
 HG (i:Int) (L.map (·.1)) (L.map (·.2)) c.U c.ay c.aa c.bU c.aX=some (.inl ((if (decide (c.aa[i].dD < 1)||decide (c.aa[i].dD > 1000000)) then 2 else if (!(c.aa[i].jc.Op==0&&(c.aa[i].jc.Index==0&&(c.aa[i].jc.au.length:Int)==0))||c.aa[i].Init) then 3 else 0),L.map (·.1),L.map (·.2),c.U,c.ay,c.aa,c.bU,c.aX)):=by
 unfold HG;rw [ax hi,dB];dsimp only [Option.bind];rw [eta,show K6 c.aa[i].jc=Lc c.aa[i].jc from rfl,tE];dsimp only;generalize (c.aa[i].jc.Op==0&&(c.aa[i].jc.Index==0&&(c.aa[i].jc.au.length:Int)==0))=z;generalize c.aa[i].Init=w;generalize decide (c.aa[i].dD < 1)=d;generalize decide (c.aa[i].dD > 1000000)=f
 cases z<;>cases w<;>cases d<;>cases f<;>simp [dB]
end ck
end
section
namespace ck
open Go Go.Pl
theorem AE {c:an} (h:cG c) (ht:vX c) (i:Nat) (hi:i < c.aa.length) {L:MP} (k:Nat) (hk:(k:Int)=fl c+i) (hL:ja c k L):
 ∃ (e:Int) (L':MP),A7 c (i:Int)=some e/\HJ (i:Int) (L.map (·.1)) (L.map (·.2)) c.U c.ay c.aa c.bU c.aX=some (.inl (e,L'.map (·.1),L'.map (·.2),c.U,c.ay,c.aa,c.bU,c.aX))/\(e=0->ja c (k+1) L'):=by
 have:=h.Yb;have:=h.s;obtain ⟨e,L',h1,h2,h3⟩:=D3 h ht k (by omega) hL;rw [MF h i hi k hk] at h2;unfold A7 HJ;rw [ax hi,h.qJ,dB];dsimp only [Option.bind];rw [bA (by omega) (by omega),<-hk,h1,h2];dsimp only [Sum.elim_inl];by_cases he:e=0
 case neg=>
  rw [bne_iff_ne.2 he,cond_true,cond_true,dB];exact ⟨e,L',rfl,rfl,fun h0=>(he h0).elim⟩
 subst he;have h3:=h3 rfl;rw [show ((0:Int) !=0)=false from rfl,cond_false,cond_false];by_cases k0:c.aa[i].Kind < 0
 ·rw [bw k0];simp only [cond_true,dB];exact ⟨1,L',rfl,rfl,fun h0=>by cases h0⟩
 rw [bg k0];simp only [cond_false];by_cases k3:c.aa[i].Kind≥3
 ·rw [decide_eq_true k3];simp only [cond_true,dB];exact ⟨1,L',rfl,rfl,fun h0=>by cases h0⟩
 rw [decide_eq_false k3];simp only [cond_false,dB,Vq,eta,BO,show FH c=nc c from rfl,h.nc,za];obtain ⟨v,hv⟩:=yA c.aa[i].On (fl c+c.aa.length);rw [hv];dsimp only [Option.bind];by_cases JC:v=0
 case neg=>
  rw [bne_iff_ne.2 JC,cond_true,cond_true];exact ⟨v,L',rfl,rfl,fun h0=>(JC h0).elim⟩
 subst JC;rw [show ((0:Int) !=0)=false from rfl,cond_false,cond_false,tE];obtain ⟨o1,o2,o3⟩:=DD hv;have hk:c.aa[i].Kind=0\/c.aa[i].Kind=1\/c.aa[i].Kind=2:=by omega
 rcases hk with hk | hk | hk
 ·obtain ⟨b,hg⟩:=RS h L' i hi hv;rw [if_pos hk,hg,hk,Ii c h i hi o1 o2 o3];dsimp only [Sum.elim_inl];simp only [dB];refine ⟨_,L',?_,rfl,fun _=>h3⟩;show (bif m9 (lp c i) c.aa[i].On then some 9 else _)=_
  cases m9 (lp c i) c.aa[i].On
  ·generalize (c.aa[i].jc.Op==0&&(c.aa[i].jc.Index==0&&(c.aa[i].jc.au.length:Int)==0))=z;generalize c.aa[i].Init=w;generalize (c.aa[i].dD !=0)=d
   cases z<;>cases w<;>cases d<;>rfl
  ·rfl
 ·obtain ⟨e,he⟩:=yA c.aa[i].jc (fl c+c.aa.length);rw [if_neg (by omega),if_pos hk,JZ h L' i hi e he,hk,he];dsimp only [Sum.elim_inl];simp only [dB];refine ⟨_,L',?_,rfl,fun _=>h3⟩;by_cases Qq:e=0
  ·subst Qq;show (bif c.aa[i].dD !=0 then some (3:Int) else some 0)=_;by_cases hd:c.aa[i].dD=0
   ·rw [hd];rfl
   ·rw [bne_iff_ne.2 hd];simp [hd]
  ·rw [show (e !=0)=true from bne_iff_ne.2 Qq,if_pos Qq];rfl
 ·rw [if_neg (by omega),if_neg (by omega),if_pos hk,OD L' i hi,hk];dsimp only [Sum.elim_inl];simp only [dB];refine ⟨_,L',?_,rfl,fun _=>h3⟩;generalize (c.aa[i].jc.Op==0&&(c.aa[i].jc.Index==0&&(c.aa[i].jc.au.length:Int)==0))=z;generalize c.aa[i].Init=w;generalize decide (c.aa[i].dD < 1)=d;generalize decide (c.aa[i].dD > 1000000)=f
  cases z<;>cases w<;>cases d<;>cases f<;>rfl
end ck
end
