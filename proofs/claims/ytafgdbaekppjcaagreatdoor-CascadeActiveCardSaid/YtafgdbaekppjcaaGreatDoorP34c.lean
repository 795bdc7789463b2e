/- Parts of my machine and its laws, joined: P34c P34d P34e P34f P34g P34h P34i P34j P34k P34l P34m. No condition. -/
import Derived.Test.YtafgdbaekppjcaaGreatDoorP32r
set_option linter.unusedSectionVars false
set_option linter.unusedVariables false
set_option linter.unusedSimpArgs false
section
namespace cK
open Go Go.Pl
mutual
def gZ:aj->Nat
 | ⟨_,_,l⟩=>1+pn l
def pn:List aj->Nat
 | []=>0
 | x::l=>max (gZ x) (pn l)
end
theorem ji (x:aj):gZ x=1+pn x.aq:=by cases x;rw [gZ]
theorem iP (x:aj):1<=gZ x:=by rw [ji];omega
theorem fS {d:Nat}:∀ (l:List aj),pn l<=d↔∀ (i:Nat) (h:i < l.length),gZ l[i]<=d
 | []=>⟨fun _ i h=>by simp at h,fun _=>by simp [pn]⟩
 | x::l=>by
  rw [pn,Nat.max_le,fS l];constructor
  ·rintro ⟨h1,h2⟩ i hi
   cases i with
   | zero=>exact h1
   | succ i=>exact h2 i (by simpa using hi)
  ·intro h;exact ⟨h 0 (by simp),fun i hi=>h (i+1) (by simpa using hi)⟩
theorem om:∀ (l:List aj) (i:Nat) (h:i < l.length),u7 l[i]<=ff l
 | x::l,0,h=>by simp [ff]
 | x::l,i+1,h=>by
  have:=om l i (by simpa using h);simp only [ff,zbh];omega
theorem wB (l:List aj):l.length<=ff l:=by have:=rJ l l.length (za6 _);rwa [zbC] at this
theorem G8:∀ (k:Nat) (x:aj) (d:Nat),d<=16->u7 x<=256->d < k->JL k x (d:Int)=some (decide (gZ x<=d))
 | 0,x,d,_,_,h=>by omega
 | k+1,x,d,hd,hs,hk=>by
  show TA (JL k) x d=_;unfold TA;have hp:=iP x;have hz:=nJ x;have hl:=wB x.aq;by_cases h0:d=0
  ·subst h0;rw [bq (by omega),cond_true];congr 1;exact (decide_eq_false (by omega)).symm
  rw [bn (by omega),cond_false];by_cases h1:d=1
  ·subst h1;rw [show (((1:Nat):Int)==1)=true from rfl,cond_true];congr 1;rw [Bool.eq_iff_iff,beq_iff_eq,decide_eq_true_eq,ji];constructor
   ·intro h;have:x.aq=[]:=List.eq_nil_of_length_eq_zero (by omega);rw [this];simp [pn]
   ·intro h;have:pn x.aq<=0:=by omega
    cases hA:x.aq with
    | nil=>rfl
    | cons y l=>
     rw [hA,pn] at this;have:=iP y;omega
  rw [show (((d:Nat):Int)==1)=false by simp;omega,cond_false];have e1:cB .i64 (d:Int) 1=((d - 1:Nat):Int):=by rw [fW (by omega) (by omega)];omega
  simp only [e1];rw [dO x.aq (fun y=>if gZ y<=d - 1 then none else some false) (show x.aq.length < 2 ^ 64 by omega) () rfl (fun i hi=>by
   have hg:=om x.aq i hi;rw [bq (show ((i:Nat):Int) < (x.aq.length:Int) by omega),cond_true,aF hi];dsimp only [Option.bind];rw [eta,G8 k x.aq[i] (d - 1) (by omega) (by omega) (by omega)];dsimp only;by_cases h:gZ x.aq[i]<=d - 1
   ·rw [decide_eq_true h,if_pos h,zb2,cond_false,an (by omega)]
   ·rw [decide_eq_false h,if_neg h,zbV,cond_true]) (by
   rw [bn (by omega),cond_false])]
  cases hf:x.aq.findSome? (fun y=>if gZ y<=d - 1 then none else some false) with
  | none=>
   rw [zbe] at hf;have:pn x.aq<=d - 1:=(fS _).2 fun i hi=>by
    have:=hf x.aq[i] (zaG hi);by_cases h:gZ x.aq[i]<=d - 1
    ·exact h
    ·rw [if_neg h] at this;cases this
   show some true=_;congr 1;exact (decide_eq_true (by rw [ji];omega)).symm
  | some b=>
   obtain ⟨y,hy,hb⟩:=zab hf;split at hb
   ·cases hb
   rename_i hn;injection hb with hb;subst hb
   show some false=_;congr 1;refine (decide_eq_false fun h=>hn ?_).symm;obtain ⟨i,hi,rfl⟩:=zaA hy;exact (fS (d:=d - 1) _).1 (by rw [ji] at h;omega) i hi
theorem xq (x:aj):m63 x=some (decide (u7 x<=256/\gZ x<=16)):=by
 unfold m63 Te Tf;rw [eta,show (256:Int)=((256:Nat):Int) from rfl,count_eq fuel x 256 (by omega) (show 256 < 2 ^ 64 by omega)];dsimp only [Option.bind];by_cases h:u7 x<=256
 ·rw [JS (by omega),cond_true,show (16:Int)=((16:Nat):Int) from rfl,G8 fuel x 16 (by omega) h (show 16 < 2 ^ 64 by omega)];simp [h]
 ·rw [TB (by omega),cond_false];simp [h]
end cK
end
section
namespace cK
open Go Go.Pl
theorem rP {τ ρ β:Type} {body:Int×τ->Option ((Int×τ)⊕ρ)} {t0:τ} {F:ρ->Option β} {Post:β->Prop} (n:Nat) (hn:n < fuel) (P:Nat->τ->Prop) (Q:ρ->Prop) (h0:P 0 t0)
 (h:∀ (k:Nat) (t:τ),k<=n->P k t->(∃ t',k < n/\body (k,t)=some (.inl (((k+1:Nat):Int),t'))/\P (k+1) t')\/∃ r,body (k,t)=some (.inr r)/\Q r)
 (hF:∀ r,Q r->∃ b,F r=some b/\Post b):∃ b,(iter body (0,t0)).bind F=some b/\Post b:=by
 obtain ⟨r,h1,h2⟩:=IM n hn P Q h0 h;obtain ⟨b,h3,h4⟩:=hF r h2;exact ⟨b,by rw [h1];exact h3,h4⟩
theorem Db (l:List aj):ff (l.take l.length)=ff l:=by rw [zbC]
abbrev M5:=Int×Int×Bool×Int×Int
def Kv (x:aj) (d c:Nat) (a2 a3:Int) (a4:Bool):M5⊕M5->Prop
 | .inl w=>w.2.2.1=false/\¬ (c+u7 x<=256/\d+gZ x<=17)
 | .inr w=>w.1=a2/\w.2.1=a3/\w.2.2.1=a4/\w.2.2.2.1=((c+u7 x:Nat):Int)/\(c+u7 x<=256/\d+gZ x<=17)
theorem Dc:∀ (k:Nat) (x:aj) (d c:Nat) (a2 a3:Int) (a4:Bool) (a6 a7 a8:Int) (a9:List aj),1<=d->d<=17->c<=256->18<=k+d->
 ∃ r,zk k x d a2 a3 a4 c a6 a7 a8 a9=some r/\Kv x d c a2 a3 a4 r
 | 0,x,d,c,_,_,_,_,_,_,_,h1,h2,h3,h4=>by omega
 | k+1,x,d,c,a2,a3,a4,a6,a7,a8,a9,h1,h2,h3,h4=>by
  show ∃ r,Kw (zk k) x d a2 a3 a4 c a6 a7 a8 a9=some r/\_;unfold Kw;have hz:=nJ x;have hp:=Br x;have hd:=iP x;have hde:=ji x;have e1:aI .i64 ((c:Nat):Int) 1=((c+1:Nat):Int):=an (by omega);simp only [e1];by_cases hc:c+1 > 256
  ·rw [show decide (((c+1:Nat):Int) > 256)=true from decide_eq_true (by omega),cond_true];exact ⟨_,rfl,rfl,by omega⟩
  rw [show decide (((c+1:Nat):Int) > 256)=false from decide_eq_false (by omega),cond_false];dsimp only [Option.bind];by_cases hdd:d > 16
  ·rw [show decide (((d:Nat):Int) > 16)=true from decide_eq_true (by omega),cond_true];exact ⟨_,rfl,rfl,by omega⟩
  rw [show decide (((d:Nat):Int) > 16)=false from decide_eq_false (by omega),cond_false];refine rP 257 (show 257 < 2 ^ 64 by omega) (fun i t=>i<=x.aq.length/\t.1=a2/\t.2.1=a3/\t.2.2.1=a4/\t.2.2.2.1=((c+1+ff (x.aq.take i):Nat):Int)/\c+1+ff (x.aq.take i)<=256/\∀ (j:Nat) (h:j < x.aq.length),j < i->d+1+gZ x.aq[j]<=17)
   (fun r=>match r with
    | .inl w=>Kv x d c a2 a3 a4 (.inr w)
    | .inr w=>Kv x d c a2 a3 a4 w) ⟨zaJ _,rfl,rfl,rfl,by simp [ff],by simp [ff];omega,fun j _ h=>by omega⟩ ?_ ?_
  ·rintro i ⟨t1,t2,t3,t4,t5⟩ hi ⟨q1,q2,q3,q4,q5,q6,q7⟩;dsimp only at q2 q3 q4 q5;subst q2;subst q3;subst q4;subst q5;dsimp only;by_cases hl:i < x.aq.length
   ·rw [bq (show ((i:Nat):Int) < (x.aq.length:Int) by omega),cond_true,aF hl];dsimp only;rw [JS (show ((d:Nat):Int)<=16 by omega),cond_true,eta,an (show d < 9223372036854775807 by omega)];obtain ⟨r,r1,r2⟩:=Dc k x.aq[i] (d+1) (c+1+ff (x.aq.take i)) t1 t2 t3 t5 a7 a8 a9 (by omega) (by omega) q6 (by omega);rw [r1];have hT:=tH x.aq i hl;have hB:=rJ x.aq i q1
    cases r with
    | inl w=>
     refine .inr ⟨_,rfl,?_⟩;refine ⟨r2.1,fun hh=>r2.2 ?_⟩;have g1:=Bs x.aq (i+1);have g2:=(fS (d:=16 - d) x.aq).1 (by omega) i hl;omega
    | inr w=>
     obtain ⟨s1,s2,s3,s4,s5,s6⟩:=r2;refine .inl ⟨(w.1,w.2.1,w.2.2.1,w.2.2.2.1,w.2.2.2.2),by omega,by rw [<-an (show i < 9223372036854775807 by omega)];rfl,by omega,s1,s2,s3,by rw [s4,hT];congr 1;omega,by omega,fun j hj hji=>?_⟩;by_cases e:j=i
     ·subst e;omega
     ·exact q7 j hj (by omega)
   ·have e:i=x.aq.length:=by omega
    subst e;rw [bn (by omega),cond_false];refine .inr ⟨_,rfl,rfl,rfl,rfl,?_,?_⟩
    ·show ((c+1+ff (x.aq.take x.aq.length):Nat):Int)=_;rw [Db,hz];congr 1;omega
    ·rw [Db] at q6;have:=(fS (d:=16 - d) x.aq).2 fun j hj=>by have:=q7 j hj hj;omega
     omega
  ·intro r hr
   cases r with
   | inl w=>exact ⟨_,rfl,hr⟩
   | inr w=>exact ⟨w,rfl,hr⟩
theorem FC (x:aj):∃ a b,OB x=some (a,b,decide (u7 x<=256/\gZ x<=16)):=by
 unfold OB Ke;rw [eta];obtain ⟨r,h1,h2⟩:=Dc fuel x 1 0 0 0 false 0 x.Op x.Index x.aq (by omega) (by omega) (by omega) (show 18<=2 ^ 64+1 by omega);have h1:zk fuel x 1 0 0 false 0 0 x.Op x.Index x.aq=some r:=h1;rw [h1]
 cases r with
 | inl w=>
  obtain ⟨h3,h4⟩:=h2;refine ⟨w.1,w.2.1,?_⟩;show some (w.1,w.2.1,w.2.2.1)=_;rw [h3,decide_eq_false (by omega)]
 | inr w=>
  obtain ⟨_,_,_,_,h5,h6⟩:=h2;refine ⟨w.2.2.2.1,w.2.2.2.2,?_⟩;show some (w.2.2.2.1,w.2.2.2.2,true)=_;rw [decide_eq_true (by omega)]
end cK
end
section
namespace cK
open Go Go.Pl
theorem ym {α:Type} (b:Bool) (x y:α):(bif b then some x else some y)=some (bif b then x else y):=by cases b<;>rfl
theorem Af (x:aj) (n:Int):∃ v,B8 x n=some v:=by
 unfold B8;simp only [ym,za];exact ⟨_,rfl⟩
theorem DN {α β:Type} (f:α->β) (g:Nat->Option α):∀ l:List Nat,l.findSome? (fun j=>(g j).map f)=(l.findSome? g).map f
 | []=>rfl
 | x::l=>by
  rw [zaO,zaO,DN f g l]
  cases g x<;>rfl
theorem I9 {α β:Type} (f:α->β) (g:Nat->Option α) (n:Nat):first n (fun j=>(g j).map f)=(first n g).map f:=DN f g _
theorem Lv {n:Int} (h0:0<=n) (h1:n<=256):∀ (k1 k2:Nat) (x:aj) (d:Nat) (a2 a4 a5:Int) (a6:List aj),u7 x<=256->d+gZ x<=17->1<=d->18<=k1+d->gZ x<=k2->
 ∃ v,pH k2 x n=some v/\pP k1 x d a2 n a4 a5 a6=some (if v=0 then .inr a2 else .inl v)
 | 0,_,x,d,_,_,_,_,_,_,_,_,_=>by have:=iP x;omega
 | _+1,0,x,d,_,_,_,_,_,_,_,_,_=>by have:=iP x;omega
 | k1+1,k2+1,x,d,a2,a4,a5,a6,hs,hd,Jn,so,hk2=>by
  have hz:=nJ x;have hde:=ji x;have hl:=wB x.aq;obtain ⟨v,hv⟩:=Af x n;have Xd:JH x n=some v:=by rw [PS x n h0 h1 (by omega),hv]
  show ∃ v,J6 (pH k2) x n=some v/\Fs (pP k1) x d a2 n a4 a5 a6=_;unfold J6 Fs;rw [eta,hv,Xd];dsimp only [Option.bind];by_cases EB:v=0
  case neg=>
   rw [show (v !=0)=true from bne_iff_ne.2 EB,cond_true,cond_true];exact ⟨v,rfl,by rw [if_neg EB]⟩
  subst EB;rw [show ((0:Int) !=0)=false from rfl,cond_false,cond_false];have child:∀ (i:Nat) (hi:i < x.aq.length),∃ w,pH k2 x.aq[i] n=some w/\pP k1 x.aq[i] ((d+1:Nat):Int) a2 n a4 a5 a6=some (if w=0 then .inr a2 else .inl w):=fun i hi=>by
   have g1:=om x.aq i hi;have g2:=(fS (d:=16 - d) x.aq).1 (by omega) i hi;have g3:=(fS (d:=k2) x.aq).1 (by omega) i hi;exact Lv h0 h1 k1 k2 x.aq[i] (d+1) a2 a4 a5 a6 (by omega) (by omega) (by omega) (by omega) g3
  let g:Nat->Option Int:=fun j=>(x.aq[j]?).bind fun y=>(pH k2 y n).bind fun w=>if w=0 then none else some w
  have hg:∀ (i:Nat) (hi:i < x.aq.length) (w:Int),pH k2 x.aq[i] n=some w->g i=if w=0 then none else some w:=fun i hi w hw=>by
   show (x.aq[i]?).bind _=_;rw [za2 hi];show (pH k2 x.aq[i] n).bind _=_;rw [hw];rfl
  rw [bt (s0:=(0:Int)) (fun j:Nat=>(j:Int)) g x.aq.length (show x.aq.length < 2 ^ 64 by omega) () rfl (fun i hi _=>by
   obtain ⟨w,c1,_⟩:=child i hi;rw [hg i hi w c1,bq (show ((i:Nat):Int) < (x.aq.length:Int) by omega),cond_true,aF hi];dsimp only;rw [eta,c1];dsimp only;by_cases hw:w=0
   ·subst hw;rw [show ((0:Int) !=0)=false from rfl,cond_false,if_pos rfl,an (by omega)]
   ·rw [show (w !=0)=true from bne_iff_ne.2 hw,cond_true,if_neg hw]) (fun _=>by rw [bn (by omega),cond_false])]
  rw [bt (s0:=((0:Int),a2)) (fun j:Nat=>((j:Int),a2)) (fun j=>(g j).map (fun w=>(Sum.inl w:Int⊕Int))) x.aq.length (show x.aq.length < 2 ^ 64 by omega) a2 rfl (fun i hi _=>by
   obtain ⟨w,c1,c2⟩:=child i hi;dsimp only;rw [hg i hi w c1,bq (show ((i:Nat):Int) < (x.aq.length:Int) by omega),cond_true,aF hi];dsimp only;rw [JS (show ((d:Nat):Int)<=16 by omega),cond_true,eta,an (show d < 9223372036854775807 by omega),c2];by_cases hw:w=0
   ·subst hw;rw [if_pos rfl,if_pos rfl];dsimp only [Sum.elim_inr,Option.map];rw [an (by omega)]
   ·rw [if_neg hw,if_neg hw];rfl) (fun _=>by dsimp only;rw [bn (by omega),cond_false]),I9]
  cases hf:first x.aq.length g with
  | none=>exact ⟨0,rfl,rfl⟩
  | some w=>
   have hw:w≠0:=by
    rintro rfl;obtain ⟨k,_,hk⟩:=zab hf;obtain ⟨y,_,hk⟩:=zba.1 hk;obtain ⟨u,_,hk⟩:=zba.1 hk;split at hk
    ·cases hk
    ·rename_i hn;injection hk with hk;exact hn hk
   exact ⟨w,rfl,by rw [if_neg hw];rfl⟩
end cK
end
section
namespace cK
open Go Go.Pl
theorem G6 (x:aj) (n:Int):JI x n=vM x n:=by
 unfold JI vM;by_cases h0:n < 0
 ·rw [bq h0,cond_true,cond_true];rfl
 rw [bn h0,cond_false,cond_false];dsimp only [Option.bind];by_cases h1:n > 256
 ·rw [decide_eq_true h1,cond_true,cond_true]
 rw [decide_eq_false h1,cond_false,cond_false,eta,xq];obtain ⟨a,b,hm⟩:=FC x;rw [hm];dsimp only;by_cases hl:u7 x<=256/\gZ x<=16
 ·rw [decide_eq_true hl,zb2,cond_false,cond_false];unfold E5 JM;obtain ⟨v,h2,h3⟩:=Lv (n:=n) (by omega) (by omega) fuel fuel x 1 0 x.Op x.Index x.aq hl.1 (by omega) (by omega) (show 18<=2 ^ 64+1 by omega) (show gZ x<=2 ^ 64 by omega);have h3:pP fuel x 1 0 n x.Op x.Index x.aq=some (if v=0 then .inr 0 else .inl v):=h3;rw [h2,h3];by_cases hv:v=0
  ·subst hv;rfl
  ·rw [if_neg hv];rfl
 ·rw [decide_eq_false hl,zbV,cond_true,cond_true]
end cK
end
section
namespace cK
open Go Go.Pl
theorem L6 (c:ax) (h1:1<=c.U) (h6:c.U<=6) (l:Int) (h0:0<=l):Oi c l=uK c l:=by
 unfold Oi uK vK sy;have e:cE .i64 2 c.U=2*c.U:=jf (by omega) (by omega);rw [e];dsimp only [Option.bind];by_cases hl:l < 2*c.U
 ·rw [bq hl,cond_true,cond_true];have:l=0\/l=1\/l=2\/l=3\/l=4\/l=5\/l=6\/l=7\/l=8\/l=9\/l=10\/l=11:=by omega
  clear hl;rcases this with rfl | rfl | rfl | rfl | rfl | rfl | rfl | rfl | rfl | rfl | rfl | rfl<;>(clear h0 h1 h6 e;show _=_;first | rfl | decide | (show (_:Option (List UInt8))=_;kernel_rfl))
 ·rw [bn hl,cond_false,cond_false]
end cK
end
section
namespace cK
open Go Go.Pl
mutual
def B2 (i:Int):aj->Bool
 | ⟨op,ix,l⟩=>if op=1 then ix==i else occs i l
def occs (i:Int):List aj->Bool
 | []=>false
 | x::l=>B2 i x||occs i l
end
theorem Uy (i:Int) (x:aj):B2 i x=if x.Op=1 then x.Index==i else occs i x.aq:=by cases x;rw [B2]
theorem CY (i:Int):∀ l:List aj,occs i l=l.any (B2 i)
 | []=>by simp [occs]
 | x::l=>by rw [occs,CY i l,zbZ]
theorem zR (i:Int):∀ (k:Nat) (x:aj),u7 x<=256->gZ x<=k->JN k x i=some (B2 i x)
 | 0,x,_,h=>by have:=iP x;omega
 | k+1,x,hs,hk=>by
  have hz:=nJ x;have hde:=ji x;have hl:=wB x.aq;show Tn (JN k) x i=_;unfold Tn;rw [Uy];by_cases ho:x.Op=1
  ·rw [show (x.Op==1)=true from beq_iff_eq.2 ho,cond_true,if_pos ho]
  rw [show (x.Op==1)=false from beq_eq_false_iff_ne.2 ho,cond_false,if_neg ho];rw [dO (s0:=(0:Int)) x.aq (fun y=>if B2 i y then some true else none) (show x.aq.length < 2 ^ 64 by omega) () rfl (fun j hj=>by
   have g1:=om x.aq j hj;have g2:=(fS (d:=k) x.aq).1 (by omega) j hj;rw [bq (show ((j:Nat):Int) < (x.aq.length:Int) by omega),cond_true,aF hj];dsimp only [Option.bind];rw [eta,zR i k x.aq[j] (by omega) g2];dsimp only
   cases B2 i x.aq[j]
   ·rw [cond_false,an (by omega)];rfl
   ·rfl) (by rw [bn (by omega),cond_false])]
  rw [CY]
  cases hf:x.aq.findSome? (fun y=>if B2 i y then some true else none) with
  | none=>
   rw [zbe] at hf;show some false=_;congr 1;refine (zbi.2 fun y hy h=>?_).symm;have:=hf y hy;rw [if_pos h] at this;cases this
  | some b=>
   obtain ⟨y,hy,hb⟩:=zab hf;split at hb
   ·rename_i h;injection hb with hb;subst hb
    show some true=_;congr 1;exact (zbb.2 ⟨y,hy,h⟩).symm
   ·cases hb
end cK
end
section
namespace cK
open Go Go.Pl
def sm (n:Int):Bool:=decide (97<=n)&&decide (n<=122)
def gd (n:Int):Bool:=sm n||((decide (65<=n)&&decide (n<=90))||((decide (48<=n)&&decide (n<=57))||n==95))
theorem Pr (n:Int):Oy n=some (gd n):=by
 unfold Oy gd sm;simp only [ge_iff_le];generalize decide (97<=n)=a;generalize decide (n<=122)=b;generalize decide (65<=n)=c;generalize decide (n<=90)=d;generalize decide (48<=n)=e;generalize decide (n<=57)=f;generalize (n==95)=g
 cases a<;>cases b<;>cases c<;>cases d<;>cases e<;>cases f<;>cases g<;>rfl
theorem RM {n:Int} (h:gd n=true):n<=122:=by
 unfold gd sm at h;simp only [zat,za0,decide_eq_true_eq,beq_iff_eq] at h;omega
def Ci (s:List UInt8):Bool:=match s with
 | []=>false
 | b::l=>sm b.toNat&&s.all fun c=>gd c.toNat
theorem RN (l:List UInt8) (k:Nat) (h:k < l.length):(ByteArray.mk l.toArray).get! k=l[k]:=by
 show (l.toArray)[k]! =l[k];rw [getElem!_pos l.toArray k (by simpa using h)];simp
theorem Uq (l:List UInt8) (k:Nat) (h:k < l.length) (hb:l[k].toNat < 128):sw l (k:Int)=((l[k].toNat:Int),((k+1:Nat):Int)):=by
 unfold sw Utf8.decode;rw [zbj];simp only [zbt,RN l k h,hb,if_true]
theorem Ur (l:List UInt8) (k:Nat) (h:k < l.length) (hb:¬ l[k].toNat < 128):(122:Int) < (sw l (k:Int)).1:=by
 unfold sw Utf8.decode;rw [zbj];simp only [zbt,RN l k h,hb,if_false];split
 ·split<;>simp only [Utf8.runeError]<;>omega
 split
 ·split
  ·rename_i hh;simp only [za0,decide_eq_true_eq] at hh;omega
  ·simp only [Utf8.runeError];omega
 split
 ·split
  ·rename_i hh;simp only [za0,decide_eq_true_eq] at hh;omega
  ·simp only [Utf8.runeError];omega
 ·simp only [Utf8.runeError];omega
theorem wrap_u8 {n:Int} (h0:0<=n) (h1:n < 256):IntKind.u8.wrap n=n:=by
 unfold IntKind.wrap;have e1:(2:Int) ^ IntKind.u8.bits=256:=by decide
 simp only [e1,IntKind.signed,Bool.false_and,za8,if_false];omega
theorem contains_eq (s:List UInt8) (hs:s.length < 2 ^ 63):nS s=some (!s.all fun c=>gd c.toNat):=by
 unfold nS xb wZ;rw [bt (s0:=(s,(0:Int))) (fun k:Nat=>(s,(k:Int))) (fun k=>s[k]?.bind fun c=>if gd c.toNat then none else some (k:Int)) s.length (show s.length < 2 ^ 64 by omega) () rfl (fun k hk _=>by
  dsimp only;rw [zbj,show Nat.blt k s.length=true from by rw [zbS];exact hk,cond_true,za2 hk];dsimp only [Option.bind];by_cases hb:s[k].toNat < 128
  ·rw [Uq s k hk hb];unfold Oz;dsimp only;by_cases h1:s[k].toNat > 122
   ·rw [decide_eq_true (show ((s[k].toNat:Nat):Int) > 122 by omega),cond_true];have:gd s[k].toNat=false:=by
     cases hg:gd s[k].toNat
     ·rfl
     ·have:=RM hg;omega
    rw [this];rfl
   ·rw [decide_eq_false (show ¬ ((s[k].toNat:Nat):Int) > 122 by omega),cond_false,wrap_u8 (by omega) (by omega),Pr]
    cases hg:gd (s[k].toNat:Int)<;>rfl
  ·have h1:=Ur s k hk hb;unfold Oz;rw [decide_eq_true (show (sw s (k:Int)).1 > 122 from h1),cond_true];have:gd s[k].toNat=false:=by
    cases hg:gd s[k].toNat
    ·rfl
    ·have:=RM hg;omega
   rw [this];rfl) (fun _=>by
  dsimp only;rw [zbj,show Nat.blt s.length s.length=false from by rw [Bool.eq_false_iff];intro h;rw [zbS] at h;omega,cond_false])]
 cases hf:first s.length (fun k=>s[k]?.bind fun c=>if gd c.toNat then none else some (k:Int)) with
 | none=>
  rw [bu] at hf;have:s.all (fun c=>gd c.toNat)=true:=zai.2 fun x hx=>by
   obtain ⟨i,hi,rfl⟩:=zaA hx;have:=hf i hi;rw [za2 hi] at this
   cases hg:gd (s[i].toNat:Int)
   ·simp [hg] at this
   ·rfl
  rw [this];rfl
 | some r=>
  obtain ⟨k,hk,hr⟩:=zab hf;have hk:=zac.1 hk;rw [za2 hk] at hr
  cases hg:gd (s[k].toNat:Int)
  case true=>simp [hg] at hr
  simp only [za,hg,za8,if_false,za1] at hr;subst hr;have:s.all (fun c=>gd c.toNat)=false:=List.all_eq_false.2 ⟨s[k],zaG hk,by rw [hg];simp⟩;rw [this];show some (decide ((k:Int)≥0))=_;rw [decide_eq_true (by omega)];rfl
theorem Pv (s:List UInt8) (hs:s.length < 2 ^ 63):OI s=some (Ci s):=by
 unfold OI;have e0:∀ k:Nat,(((k:Nat):Int)==0)=decide (k=0):=fun k=>by
  rw [Bool.eq_iff_iff,beq_iff_eq,decide_eq_true_eq];omega
 rw [bt (s0:=(0:Int)) (fun k:Nat=>(k:Int)) (fun k=>s[k]?.bind fun c=>if (decide (k=0)&& !sm c.toNat)|| !gd c.toNat then some false else none) s.length (show s.length < 2 ^ 64 by omega) () rfl (fun k hk _=>by
  rw [bq (show ((k:Nat):Int) < (s.length:Int) by omega),cond_true,aF hk,za2 hk,e0];dsimp only [Option.bind];generalize ((s[k].toNat:Nat):Int)=n;rw [an (by omega),show decide (n < 48)= !decide (48<=n) from by rw [<-decide_not];congr 1;exact propext (by omega),show decide (n > 57)= !decide (n<=57) from by rw [<-decide_not];congr 1;exact propext (by omega)];unfold gd sm;simp only [ge_iff_le,bne];generalize decide (97<=n)=a;generalize decide (n<=122)=b;generalize decide (65<=n)=c;generalize decide (n<=90)=d;generalize decide (48<=n)=e;generalize decide (n<=57)=f;generalize (n==95)=g;generalize decide (k=0)=z
  cases a<;>cases b<;>cases c<;>cases d<;>cases e<;>cases f<;>cases g<;>cases z<;>rfl) (fun _=>by
  rw [bn (by omega),cond_false])]
 cases hf:first s.length (fun k=>s[k]?.bind fun c=>if (decide (k=0)&& !sm c.toNat)|| !gd c.toNat then some false else none) with
 | none=>
  rw [bu] at hf
  cases s with
  | nil=>rfl
  | cons b l=>
   have ha:((b::l).all fun c=>gd c.toNat)=true:=zai.2 fun x hx=>by
    obtain ⟨i,hi,rfl⟩:=zaA hx;have:=hf i hi;rw [za2 hi] at this
    cases hg:gd ((b::l)[i].toNat:Int)
    ·simp only [za,hg,zbV,zbX,if_true] at this;cases this
    ·rfl
   have hb:=hf 0 (by simp);have hs:sm (b.toNat:Int)=true:=by
    cases hg:sm (b.toNat:Int)
    ·simp [hg] at hb
    ·rfl
   show some true=some (sm b.toNat&&(b::l).all fun c=>gd c.toNat);rw [ha,hs];rfl
 | some r=>
  obtain ⟨k,hk,hr⟩:=zab hf;have hk:=zac.1 hk;rw [za2 hk] at hr;simp only [za] at hr;split at hr
  case isFalse=>cases hr
  rename_i hc;injection hr with hr;subst hr
  show some false=_;congr 1
  cases s with
  | nil=>simp at hk
  | cons b l=>
   show false=(sm b.toNat&&(b::l).all fun c=>gd c.toNat);simp only [zat,za0,decide_eq_true_eq,zaW] at hc;rcases hc with ⟨h0,h1⟩ | h1
   ·subst h0;rw [show sm (b.toNat:Int)=false from h1];rfl
   ·have:((b::l).all fun c=>gd c.toNat)=false:=List.all_eq_false.2 ⟨(b::l)[k],zaG hk,by rw [h1];simp⟩;rw [this,Bool.and_false]
end cK
end
section
namespace cK
open Go Go.Pl
abbrev MP:=List (List UInt8×Int)
theorem dL:∀ L:MP,List.zip (L.map (·.1)) (L.map (·.2))=L
 | []=>rfl
 | x::L=>by rw [za5,za5,List.zip_cons_cons,dL L]
theorem Hf (x:List UInt8):∀ L:MP,(F5 x L).isSome=decide (x∈L.map (·.1))
 | []=>rfl
 | p::L=>by
  unfold F5;by_cases h:x=p.1
  ·rw [if_pos h];simp [h]
  ·rw [if_neg h,Hf x L];simp [h]
theorem Bq (x:List UInt8) (v:Int) (y:List UInt8):∀ L:MP,y∈(Eu x v L).map (·.1)↔y=x\/y∈L.map (·.1)
 | []=>by simp [Eu]
 | p::L=>by
  unfold Eu;by_cases h:x=p.1
  ·rw [if_pos h];simp [h]
  ·rw [if_neg h,za5,zam,Bq x v y L,za5,zam];constructor
   ·rintro (h | h | h)
    ·exact .inr (.inl h)
    ·exact .inl h
    ·exact .inr (.inr h)
   ·rintro (h | h | h)
    ·exact .inr (.inl h)
    ·exact .inl h
    ·exact .inr (.inr h)
def Wa (s:List UInt8) (taken:Bool):Int:=if Ci s then (if (s.length:Int) > 24 then 17 else if taken then 7 else 0) else 3
theorem Qe (s:List UInt8) (L:MP) (a3:Int) (a4:List (List UInt8)) (a5:List aK) (a6 a7:List Int) (hs:s.length < 2 ^ 63):
 ∃ L':MP,zj s (L.map (·.1)) (L.map (·.2)) a3 a4 a5 a6 a7=some (.inl (Wa s (decide (s∈L.map (·.1))),L'.map (·.1),L'.map (·.2),a3,a4,a5,a6,a7))/\
  (Wa s (decide (s∈L.map (·.1)))=0->∀ y,y∈L'.map (·.1)↔y=s\/y∈L.map (·.1)):=by
 have h0:((bif (s==[]) then some (true,((List.zip (L.map (·.1)) (L.map (·.2))).map (·.1)),((List.zip (L.map (·.1)) (L.map (·.2))).map (·.2)),a3,a4,a5,a6,a7) else (idx s 0).bind fun v2=>(bif (decide ((v2.toNat:Int) < 97)) then some (true,((List.zip (L.map (·.1)) (L.map (·.2))).map (·.1)),((List.zip (L.map (·.1)) (L.map (·.2))).map (·.2)),a3,a4,a5,a6,a7) else (idx s 0).bind fun v3=>(bif (decide ((v3.toNat:Int) > 122)) then some (true,((List.zip (L.map (·.1)) (L.map (·.2))).map (·.1)),((List.zip (L.map (·.1)) (L.map (·.2))).map (·.2)),a3,a4,a5,a6,a7) else (nS s).bind fun v4=>some (v4,((List.zip (L.map (·.1)) (L.map (·.2))).map (·.1)),((List.zip (L.map (·.1)) (L.map (·.2))).map (·.2)),a3,a4,a5,a6,a7)))):Option (Bool×(List (List UInt8))×(List Int)×Int×(List (List UInt8))×(List aK)×(List Int)×(List Int)))=some (!Ci s,L.map (·.1),L.map (·.2),a3,a4,a5,a6,a7):=by
  simp only [dL,contains_eq s hs]
  cases s with
  | nil=>rfl
  | cons b l=>
   have e:idx (b::l) 0=some b:=rfl;rw [e];show (bif false then _ else _)=_;rw [cond_false];dsimp only [Option.bind];by_cases h1:(b.toNat:Int) < 97
   ·rw [bq h1,cond_true];have:sm b.toNat=false:=by unfold sm;rw [decide_eq_false (by omega)];rfl
    show _=some (!(sm b.toNat&&_),_);rw [this];rfl
   rw [bn h1,cond_false];by_cases h2:(b.toNat:Int) > 122
   ·rw [decide_eq_true h2,cond_true];have:sm b.toNat=false:=by unfold sm;rw [decide_eq_false (p:=(b.toNat:Int)<=122) (by omega),Bool.and_false]
    show _=some (!(sm b.toNat&&_),_);rw [this];rfl
   rw [decide_eq_false h2,cond_false];have:sm b.toNat=true:=by unfold sm;rw [decide_eq_true (by omega),decide_eq_true (by omega)];rfl
   show _=some (!(sm b.toNat&&_),_);rw [this,zaN]
 unfold zj;rw [h0];dsimp only [Option.bind];simp only [dL,Hf];unfold Wa
 cases hw:Ci s
 ·exact ⟨L,rfl,fun h=>by cases h⟩
 rw [zb2,cond_false,if_pos rfl];by_cases hl:(s.length:Int) > 24
 ·rw [decide_eq_true hl,cond_true,if_pos hl];exact ⟨L,rfl,fun h=>by cases h⟩
 rw [decide_eq_false hl,cond_false,if_neg hl]
 cases ht:decide (s∈L.map (·.1))
 ·rw [cond_false];dsimp only;rw [cond_false];simp only [dL];exact ⟨_,rfl,fun _ y=>Bq _ _ _ _⟩
 ·rw [cond_true];dsimp only;rw [cond_true];simp only [dL,if_true];exact ⟨L,rfl,fun h=>by cases h⟩
end cK
end
section
namespace cK
open Go Go.Pl
mutual
def Jw (n:Int):aj->Prop
 | ⟨op,ix,l⟩=>(op=1->0<=ix/\ix < n/\l=[])/\Cf n l
def Cf (n:Int):List aj->Prop
 | []=>True
 | x::l=>Jw n x/\Cf n l
end
mutual
def oX (p:Int->Bool):aj->Bool
 | ⟨op,ix,l⟩=>(op==1&&p ix)||lu p l
def lu (p:Int->Bool):List aj->Bool
 | []=>false
 | x::l=>oX p x||lu p l
end
theorem Lg (n:Int) (x:aj):Jw n x=((x.Op=1->0<=x.Index/\x.Index < n/\x.aq=[])/\Cf n x.aq):=by cases x;rw [Jw]
theorem PM (p:Int->Bool) (x:aj):oX p x=((x.Op==1&&p x.Index)||lu p x.aq):=by cases x;rw [oX]
theorem xg (n:Int):∀ l:List aj,Cf n l↔∀ (i:Nat) (h:i < l.length),Jw n l[i]
 | []=>by simp [Cf]
 | x::l=>by
  rw [Cf,xg n l];constructor
  ·rintro ⟨h1,h2⟩ i hi
   cases i with
   | zero=>exact h1
   | succ i=>exact h2 i (by simpa using hi)
  ·intro h;exact ⟨h 0 (by simp),fun i hi=>h (i+1) (by simpa using hi)⟩
theorem xX (p:Int->Bool):∀ (l:List aj) (i:Nat) (h:i < l.length),lu p (l.take (i+1))=(lu p (l.take i)||oX p l[i])
 | x::l,0,h=>by simp [lu]
 | x::l,i+1,h=>by
  have:=xX p l i (by simpa using h);simp only [zbY,lu,zbh,this,Bool.or_assoc]
mutual
theorem G5 (p:Int->Bool) (n:Int):∀ x:aj,Jw n x->(oX p x=true↔∃ j,(0<=j/\j < n)/\p j=true/\B2 j x=true)
 | ⟨op,ix,l⟩,h=>by
  rw [Jw] at h;rw [oX,zat,za0,beq_iff_eq,DU p n l h.2];by_cases ho:op=1
  ·obtain ⟨h1,h2,h3⟩:=h.1 ho;subst h3;constructor
   ·rintro (⟨_,hp⟩ | ⟨j,_,_,hj⟩)
    ·exact ⟨ix,⟨h1,h2⟩,hp,by rw [B2,if_pos ho,beq_iff_eq]⟩
    ·simp [occs] at hj
   ·rintro ⟨j,_,hp,hj⟩;rw [B2,if_pos ho,beq_iff_eq] at hj;subst hj;exact .inl ⟨ho,hp⟩
  ·constructor
   ·rintro (⟨h1,_⟩ | ⟨j,h1,h2,hj⟩)
    ·exact (ho h1).elim
    ·exact ⟨j,h1,h2,by rw [B2,if_neg ho];exact hj⟩
   ·rintro ⟨j,h1,hp,hj⟩;rw [B2,if_neg ho] at hj;exact .inr ⟨j,h1,hp,hj⟩
theorem DU (p:Int->Bool) (n:Int):∀ l:List aj,Cf n l->(lu p l=true↔∃ j,(0<=j/\j < n)/\p j=true/\occs j l=true)
 | [],_=>by simp [lu,occs]
 | x::l,h=>by
  rw [Cf] at h;rw [lu,zat,G5 p n x h.1,DU p n l h.2];constructor
  ·rintro (⟨j,h1,h2,h3⟩ | ⟨j,h1,h2,h3⟩)
   ·exact ⟨j,h1,h2,by rw [occs,h3,Bool.true_or]⟩
   ·exact ⟨j,h1,h2,by rw [occs,h3,zbX]⟩
  ·rintro ⟨j,h1,h2,h3⟩;rw [occs,zat] at h3;rcases h3 with h3 | h3
   ·exact .inl ⟨j,h1,h2,h3⟩
   ·exact .inr ⟨j,h1,h2,h3⟩
end
theorem NI {x:aj} {n:Int} (h:B8 x n=some 0) (ho:x.Op=1):0<=x.Index/\x.Index < n/\x.aq=[]:=by
 obtain ⟨op,ix,l⟩:=x;dsimp only at ho;subst ho;unfold B8 at h;dsimp only at h ⊢;simp only [ym,za] at h;by_cases hl:(l.length:Int)=0
 ·have e:l=[]:=List.eq_nil_of_length_eq_zero (by omega);subst e;by_cases h1:ix < 0
  ·simp [h1] at h
  by_cases h2:ix≥n
  ·simp [h1,h2] at h
  exact ⟨by omega,by omega,rfl⟩
 ·have:((l.length:Int) !=0)=true:=bne_iff_ne.2 hl;simp [this] at h
theorem xO (n:Int):∀ (k:Nat) (x:aj),u7 x<=256->gZ x<=k->∃ v,pH k x n=some v/\(v=0->Jw n x)
 | 0,x,_,h=>by have:=iP x;omega
 | k+1,x,hs,hk=>by
  have hz:=nJ x;have hde:=ji x;have hl:=wB x.aq;show ∃ v,J6 (pH k) x n=some v/\_;unfold J6;rw [eta];obtain ⟨v,hv⟩:=Af x n;rw [hv];dsimp only [Option.bind];by_cases EB:v=0
  case neg=>
   rw [show (v !=0)=true from bne_iff_ne.2 EB,cond_true];exact ⟨v,rfl,fun h=>(EB h).elim⟩
  subst EB;rw [show ((0:Int) !=0)=false from rfl,cond_false];have child:∀ (i:Nat) (hi:i < x.aq.length),∃ w,pH k x.aq[i] n=some w/\(w=0->Jw n x.aq[i]):=fun i hi=>by
   have g1:=om x.aq i hi;have g2:=(fS (d:=k) x.aq).1 (by omega) i hi;exact xO n k x.aq[i] (by omega) g2
  let g:Nat->Option Int:=fun j=>(x.aq[j]?).bind fun y=>(pH k y n).bind fun w=>if w=0 then none else some w
  have hg:∀ (i:Nat) (hi:i < x.aq.length) (w:Int),pH k x.aq[i] n=some w->g i=if w=0 then none else some w:=fun i hi w hw=>by
   show (x.aq[i]?).bind _=_;rw [za2 hi];show (pH k x.aq[i] n).bind _=_;rw [hw];rfl
  rw [bt (s0:=(0:Int)) (fun j:Nat=>(j:Int)) g x.aq.length (show x.aq.length < 2 ^ 64 by omega) () rfl (fun i hi _=>by
   obtain ⟨w,c1,_⟩:=child i hi;rw [hg i hi w c1,bq (show ((i:Nat):Int) < (x.aq.length:Int) by omega),cond_true,aF hi];dsimp only;rw [eta,c1];dsimp only;by_cases hw:w=0
   ·subst hw;rw [show ((0:Int) !=0)=false from rfl,cond_false,if_pos rfl,an (by omega)]
   ·rw [show (w !=0)=true from bne_iff_ne.2 hw,cond_true,if_neg hw]) (fun _=>by rw [bn (by omega),cond_false])]
  cases hf:first x.aq.length g with
  | none=>
   refine ⟨0,rfl,fun _=>?_⟩;rw [Lg];refine ⟨NI hv,(xg n _).2 fun i hi=>?_⟩;obtain ⟨w,c1,c2⟩:=child i hi;have:=bu.1 hf i hi;rw [hg i hi w c1] at this;by_cases hw:w=0
   ·exact c2 hw
   ·rw [if_neg hw] at this;cases this
  | some w=>
   refine ⟨w,rfl,?_⟩;rintro rfl;obtain ⟨j,_,hj⟩:=zab hf;obtain ⟨y,_,hj⟩:=zba.1 hj;obtain ⟨u,_,hj⟩:=zba.1 hj;split at hj
   ·cases hj
   ·rename_i hn;injection hj with hj;exact (hn hj).elim
theorem C1 {x:aj} {n:Int} (h:vM x n=some 0):u7 x<=256/\gZ x<=16/\Jw n x:=by
 unfold vM at h;by_cases h0:n < 0
 ·rw [bq h0,cond_true] at h;exact absurd h (by simp)
 rw [bn h0,cond_false] at h;dsimp only [Option.bind] at h;by_cases h1:n > 256
 ·rw [decide_eq_true h1,cond_true] at h;exact absurd h (by simp)
 rw [decide_eq_false h1,cond_false,eta,xq] at h;by_cases hl:u7 x<=256/\gZ x<=16
 ·obtain ⟨v,h2,h3⟩:=xO n fuel x hl.1 (show gZ x<=2 ^ 64 by omega);have h2:JM x n=some v:=h2;rw [decide_eq_true hl] at h;dsimp only at h;rw [zb2,cond_false,h2] at h;injection h with h
  exact ⟨hl.1,hl.2,h3 h⟩
 ·rw [decide_eq_false hl] at h;exact absurd h (by simp)
theorem yp (x:aj) (n:Int):∃ v,vM x n=some v:=by
 unfold vM;by_cases h0:n < 0
 ·rw [bq h0,cond_true];exact ⟨_,rfl⟩
 rw [bn h0,cond_false];dsimp only [Option.bind];by_cases h1:n > 256
 ·rw [decide_eq_true h1,cond_true];exact ⟨_,rfl⟩
 rw [decide_eq_false h1,cond_false,eta,xq];by_cases hl:u7 x<=256/\gZ x<=16
 ·obtain ⟨v,h2,h3⟩:=xO n fuel x hl.1 (show gZ x<=2 ^ 64 by omega);have h2:JM x n=some v:=h2;rw [decide_eq_true hl];dsimp only;rw [zb2,cond_false,h2];exact ⟨_,rfl⟩
 ·rw [decide_eq_false hl];exact ⟨_,rfl⟩
end cK
end
section
namespace cK
open Go Go.Pl
structure dY (c:ax):Prop where
 a1:1<=c.U
 a6:c.U<=6
 i:c.aC.length<=16
 s:c.ah.length<=64
def fl (c:ax):Int:=2*c.U+c.aC.length
theorem dY.vK {c:ax} (h:dY c):vK c=some (fl c):=by
 unfold cK.vK fl;have:=h.a1;have:=h.a6;have:=h.i;rw [jf (by omega) (by omega),bh (by omega) (by omega)]
theorem dY.sy {c:ax} (h:dY c):sy c=some (fl c):=h.vK
theorem dY.me {c:ax} (h:dY c):me c=some (fl c+c.ah.length):=by
 unfold cK.me fl;have:=h.a1;have:=h.a6;have:=h.i;have:=h.s;rw [jf (by omega) (by omega),bh (x:=2*c.U) (by omega) (by omega),bh (by omega) (by omega)]
def lp (c:ax) (i:Nat) (ix:Int):Bool:=decide (ix - fl c≥(i:Int))&&(match idx c.ah (ix - fl c) with | some s=>s.Kind==0 | none=>false)
theorem G4 (L:MP) (c:ax) (hc:dY c) (i:Nat):∀ (k:Nat) (x:aj) (b:Bool),u7 x<=256->gZ x<=k->Jw (fl c+c.ah.length) x->
 Ch k x (L.map (·.1)) (L.map (·.2)) c.U c.aC c.ah c.bT c.aZ b (i:Int)=some (.inl (L.map (·.1),L.map (·.2),c.U,c.aC,c.ah,c.bT,c.aZ,b||oX (lp c i) x,(i:Int)))
 | 0,x,_,_,h,_=>by have:=iP x;omega
 | k+1,x,b,hs,hk,hv=>by
  have hz:=nJ x;have hde:=ji x;have hl:=wB x.aq;rw [Lg] at hv;show Kp (Ch k) x (L.map (·.1)) (L.map (·.2)) c.U c.aC c.ah c.bT c.aZ b (i:Int)=_;unfold Kp;have hm:vK (⟨c.U,c.aC,c.ah,c.bT,c.aZ⟩:ax)=some (fl c):=hc.vK;simp only [dL,hm,za];have h1:((bif (x.Op==1) then ((bif b then some (L.map (·.1),L.map (·.2),c.U,c.aC,c.ah,c.bT,c.aZ,true,(i:Int)) else (bif (decide ((cB .i64 x.Index (fl c))≥(i:Int))) then (idx c.ah (cB .i64 x.Index (fl c))).bind fun v4=>some (L.map (·.1),L.map (·.2),c.U,c.aC,c.ah,c.bT,c.aZ,(v4.Kind==0),(i:Int)) else some (L.map (·.1),L.map (·.2),c.U,c.aC,c.ah,c.bT,c.aZ,false,(i:Int)))):Option ((List (List UInt8))×(List Int)×Int×(List (List UInt8))×(List aK)×(List Int)×(List Int)×Bool×Int)).bind fun w3=>some (((List.zip w3.1 w3.2.1).map (·.1)),((List.zip w3.1 w3.2.1).map (·.2)),w3.2.2.1,w3.2.2.2.1,w3.2.2.2.2.1,w3.2.2.2.2.2.1,w3.2.2.2.2.2.2.1,w3.2.2.2.2.2.2.2.1,w3.2.2.2.2.2.2.2.2) else some (L.map (·.1),L.map (·.2),c.U,c.aC,c.ah,c.bT,c.aZ,b,(i:Int))):Option ((List (List UInt8))×(List Int)×Int×(List (List UInt8))×(List aK)×(List Int)×(List Int)×Bool×Int))=some (L.map (·.1),L.map (·.2),c.U,c.aC,c.ah,c.bT,c.aZ,b||(x.Op==1&&lp c i x.Index),(i:Int)):=by
   cases ho:x.Op==1
   ·rw [cond_false,Bool.false_and,Bool.or_false]
   rw [cond_true,zaN];obtain ⟨r1,r2,r3⟩:=hv.1 (beq_iff_eq.1 ho);have:=hc.a1;have:=hc.a6;have:=hc.i;have:=hc.s;have hf:0<=fl c/\fl c<=28:=by unfold fl;omega
   cases b
   ·rw [cond_false,zbQ,fW (by omega) (by omega)];unfold lp;by_cases hd:x.Index - fl c≥(i:Int)
    ·obtain ⟨q1,q2⟩:=oo (l:=c.ah) (i:=x.Index - fl c) (by omega) (by omega);rw [decide_eq_true hd,cond_true,q2];dsimp only [Option.bind];rw [dL,zaN]
    ·rw [decide_eq_false hd,cond_false];dsimp only [Option.bind];rw [dL,Bool.false_and]
   ·rw [cond_true];dsimp only [Option.bind];rw [dL,Bool.true_or]
  rw [h1];dsimp only [Option.bind];generalize hb:(b||(x.Op==1&&lp c i x.Index))=b1;rw [aN (s0:=((0:Int),((List.zip (L.map (·.1)) (L.map (·.2))).map (·.1)),((List.zip (L.map (·.1)) (L.map (·.2))).map (·.2)),c.U,c.aC,c.ah,c.bT,c.aZ,b1,(i:Int))) (fun j:Nat=>((j:Int),L.map (·.1),L.map (·.2),c.U,c.aC,c.ah,c.bT,c.aZ,b1||lu (lp c i) (x.aq.take j),(i:Int))) x.aq.length (show x.aq.length < 2 ^ 64 by omega)
   (L.map (·.1),L.map (·.2),c.U,c.aC,c.ah,c.bT,c.aZ,b1||lu (lp c i) x.aq,(i:Int)) (by simp [dL,lu]) (fun j hj=>by
    dsimp only;have g1:=om x.aq j hj;have g2:=(fS (d:=k) x.aq).1 (by omega) j hj;rw [bq (show ((j:Nat):Int) < (x.aq.length:Int) by omega),cond_true,aF hj];dsimp only;rw [eta,dL,G4 L c hc i k x.aq[j] _ (by omega) g2 ((xg _ _).1 hv.2 j hj)];dsimp only [Sum.elim_inl];rw [dL,an (by omega),xX _ _ _ hj,Bool.or_assoc]) (by
    dsimp only;rw [bn (by omega),cond_false,dL,zbC])]
  dsimp only;rw [dL,<-hb,PM,Bool.or_assoc]
theorem PN (c:ax) (hc:dY c) (i:Nat) (hi:i < c.ah.length) (h1:u7 c.ah[i].On<=256) (h2:gZ c.ah[i].On<=16) (h3:Jw (fl c+c.ah.length) c.ah[i].On):
 OJ c (i:Int)=some (oX (lp c i) c.ah[i].On):=by
 unfold OJ;have:=hc.a1;have:=hc.a6;have:=hc.i;have:=hc.s;have hf:0<=fl c/\fl c<=28:=by unfold fl;omega
 rw [bt (s0:=(i:Int)) (fun k:Nat=>((i+k:Nat):Int)) (fun k=>(c.ah[i+k]?).bind fun s=>if (s.Kind==0&&B2 (fl c+((i+k:Nat):Int)) c.ah[i].On)=true then some true else none) (c.ah.length - i) (show c.ah.length - i < 2 ^ 64 by omega) () rfl (fun k hk _=>by
  have hk':i+k < c.ah.length:=by omega
  rw [bq (show (((i+k:Nat):Nat):Int) < (c.ah.length:Int) by omega),cond_true,aF hk',za2 hk',aF hi,hc.sy];dsimp only [Option.bind];rw [eta,bh (by omega) (by omega)];unfold Tg;rw [zR _ fuel c.ah[i].On h1 (show _<=2 ^ 64 by omega),an (by omega)]
  cases c.ah[i+k].Kind==0
  ·rfl
  ·rw [cond_true];dsimp only
   cases B2 (fl c+((i+k:Nat):Int)) c.ah[i].On<;>rfl) (fun _=>by
  rw [bn (by omega),cond_false])]
 have key:oX (lp c i) c.ah[i].On=true↔∃ k,k < c.ah.length - i/\((c.ah[i+k]?).bind fun s=>if (s.Kind==0&&B2 (fl c+((i+k:Nat):Int)) c.ah[i].On)=true then some true else none)=some true:=by
  rw [G5 _ _ _ h3];constructor
  ·rintro ⟨j,⟨j0,j1⟩,hp,ho⟩;unfold lp at hp;simp only [za0,decide_eq_true_eq] at hp;obtain ⟨q1,q2⟩:=oo (l:=c.ah) (i:=j - fl c) (by omega) (by omega);rw [q2] at hp;dsimp only at hp;refine ⟨(j - fl c).toNat - i,by omega,?_⟩;have e:i+((j - fl c).toNat - i)=(j - fl c).toNat:=by omega
   rw [e,za2 q1];dsimp only [Option.bind];rw [if_pos];rw [hp.2,zaN,show fl c+(((j - fl c).toNat:Nat):Int)=j by omega];exact ho
  ·rintro ⟨k,hk,h⟩;have hk':i+k < c.ah.length:=by omega
   rw [za2 hk'] at h;dsimp only [Option.bind] at h;split at h
   ·rename_i hh;rw [za0] at hh;refine ⟨fl c+((i+k:Nat):Int),⟨by omega,by omega⟩,?_,hh.2⟩;unfold lp;rw [show fl c+((i+k:Nat):Int) - fl c=((i+k:Nat):Int) by omega,decide_eq_true (by omega),aF hk',zaN];exact hh.1
   ·cases h
 cases hf:first (c.ah.length - i) (fun k=>(c.ah[i+k]?).bind fun s=>if (s.Kind==0&&B2 (fl c+((i+k:Nat):Int)) c.ah[i].On)=true then some true else none) with
 | none=>
  have:oX (lp c i) c.ah[i].On=false:=by
   cases hv:oX (lp c i) c.ah[i].On
   ·rfl
   ·obtain ⟨k,hk,h⟩:=key.1 hv;rw [bu.1 hf k hk] at h;cases h
  rw [this];rfl
 | some r=>
  obtain ⟨k,hk,hr⟩:=zab hf;have hk:=zac.1 hk;have SB:r=true:=by
   obtain ⟨s,_,hs⟩:=zba.1 hr;split at hs
   ·injection hs with hs;exact hs.symm
   ·cases hs
  subst SB;rw [key.2 ⟨k,hk,hr⟩];rfl
end cK
end
section
namespace cK
open Go Go.Pl
structure vZ (c:ax):Prop where
 i:∀ (k:Nat) (h:k < c.aC.length),c.aC[k].length < 2 ^ 63
 s:∀ (k:Nat) (h:k < c.ah.length),c.ah[k].Name.length < 2 ^ 63
def nm (c:ax) (k:Nat):List UInt8:=(uK c (k:Int)).getD []
theorem Bv {c:ax} {k:Nat} {v:List UInt8} (h:uK c (k:Int)=some v):nm c k=v:=by unfold nm;rw [h];rfl
theorem dY.Wg {c:ax} (h:dY c):0<=fl c/\fl c<=28:=by
 unfold fl;have:=h.a1;have:=h.a6;have:=h.i;omega
theorem A8 {c:ax} (h:dY c) (ht:vZ c) (k:Nat) (hk:(k:Int) < fl c+c.ah.length):uK c (k:Int)=some (nm c k)/\(nm c k).length < 2 ^ 63:=by
 suffices ∃ v,uK c (k:Int)=some v/\v.length < 2 ^ 63 by
  obtain ⟨v,h1,h2⟩:=this;rw [Bv h1];exact ⟨h1,h2⟩
 have:=h.a1;have:=h.a6;have:=h.i;have:=h.s;unfold uK;rw [h.sy,jf (by omega) (by omega)];dsimp only [Option.bind];by_cases hl:(k:Int) < 2*c.U
 ·rw [bq hl,cond_true];have:k=0\/k=1\/k=2\/k=3\/k=4\/k=5\/k=6\/k=7\/k=8\/k=9\/k=10\/k=11:=by omega
  clear hl hk;rcases this with rfl | rfl | rfl | rfl | rfl | rfl | rfl | rfl | rfl | rfl | rfl | rfl<;>exact ⟨_,rfl,by decide⟩
 rw [bn hl,cond_false];by_cases hf:(k:Int) < fl c
 ·have h0:=h.Wg;rw [bq hf,cond_true,fW (by omega) (by omega)];obtain ⟨q1,q2⟩:=oo (l:=c.aC) (i:=(k:Int) - 2*c.U) (by omega) (by unfold fl at hf;omega);rw [q2];exact ⟨_,rfl,ht.i _ q1⟩
 ·rw [bn hf,cond_false];have h0:=h.Wg;rw [fW (by omega) (by omega)];obtain ⟨q1,q2⟩:=oo (l:=c.ah) (i:=(k:Int) - fl c) (by omega) (by omega);rw [q2];exact ⟨_,rfl,ht.s _ q1⟩
theorem Zo {c:ax} (h:dY c) (i:Nat) (hi:i < c.aC.length) (k:Nat) (hk:(k:Int)=2*c.U+i):nm c k=c.aC[i]:=by
 apply Bv
 have:=h.a1;have:=h.a6;have:=h.i;have:=h.s;unfold uK;rw [h.sy,jf (by omega) (by omega)];dsimp only [Option.bind];rw [bn (by omega),cond_false,bq (by unfold fl;omega),cond_true,fW (by omega) (by omega),show (k:Int) - 2*c.U=(i:Nat) by omega,aF hi]
theorem U8 {c:ax} (h:dY c) (i:Nat) (hi:i < c.ah.length) (k:Nat) (hk:(k:Int)=fl c+i):nm c k=c.ah[i].Name:=by
 apply Bv
 have:=h.a1;have:=h.a6;have:=h.i;have:=h.s;have:=h.Wg;unfold uK;rw [h.sy,jf (by omega) (by omega)];dsimp only [Option.bind];rw [bn (by unfold fl at hk;omega),cond_false,bn (by omega),cond_false,fW (by omega) (by omega),show (k:Int) - fl c=(i:Nat) by omega,aF hi]
theorem Di {c:ax} (h:dY c) (ht:vZ c) (k:Nat) (hk:(k:Int) < fl c+c.ah.length):
 yP c (k:Int)=some (Wa (nm c k) (decide (∃ j,j < k/\nm c j=nm c k))):=by
 unfold yP Wa;obtain ⟨h1,h2⟩:=A8 h ht k hk;rw [h1];dsimp only [Option.bind];rw [Pv _ h2];dsimp only
 cases hw:Ci (nm c k)
 ·rfl
 rw [zb2,cond_false,if_pos rfl];by_cases hl:((nm c k).length:Int) > 24
 ·rw [decide_eq_true hl,cond_true,if_pos hl]
 rw [decide_eq_false hl,cond_false,if_neg hl];have:=h.Wg;have:=h.s;rw [bt (s0:=(0:Int)) (fun j:Nat=>(j:Int)) (fun j=>if nm c j=nm c k then some 7 else none) k (show k < 2 ^ 64 by omega) () rfl (fun j hj _=>by
  rw [bq (show ((j:Nat):Int) < (k:Int) by omega),cond_true,(A8 h ht j (by omega)).1];dsimp only;by_cases he:nm c j=nm c k
  ·rw [if_pos he,beq_iff_eq.2 he,cond_true]
  ·rw [if_neg he,beq_eq_false_iff_ne.2 he,cond_false,an (by omega)]) (fun _=>by rw [bn (by omega),cond_false])]
 by_cases hx:∃ j,j < k/\nm c j=nm c k
 ·rw [decide_eq_true hx]
  cases hf:first k (fun j=>if nm c j=nm c k then some (7:Int) else none) with
  | none=>
   obtain ⟨j,hj,he⟩:=hx;have:=bu.1 hf j hj;rw [if_pos he] at this;cases this
  | some r=>
   obtain ⟨j,hj,hr⟩:=zab hf;split at hr
   ·injection hr with hr;subst hr;rfl
   ·cases hr
 ·rw [decide_eq_false hx,iy (fun j hj=>by rw [if_neg (fun he=>hx ⟨j,hj,he⟩)])];rfl
def iZ (c:ax) (k:Nat) (L:MP):Prop:=∀ y,y∈L.map (·.1)↔∃ j,j < k/\nm c j=y
theorem iZ.zero (c:ax):iZ c 0 []:=fun y=>⟨fun h=>by simp at h,fun ⟨j,h,_⟩=>by omega⟩
theorem iZ.more {c:ax} {k:Nat} {L L':MP} (h:iZ c k L) (h':∀ y,y∈L'.map (·.1)↔y=nm c k\/y∈L.map (·.1)):iZ c (k+1) L':=fun y=>by
 rw [h' y,h y];constructor
 ·rintro (rfl | ⟨j,h1,h2⟩)
  ·exact ⟨k,by omega,rfl⟩
  ·exact ⟨j,by omega,h2⟩
 ·rintro ⟨j,h1,h2⟩;by_cases e:j=k
  ·subst e;exact .inl h2.symm
  ·exact .inr ⟨j,by omega,h2⟩
theorem Dj {c:ax} (h:dY c) (ht:vZ c) (k:Nat) (hk:(k:Int) < fl c+c.ah.length) {L:MP} (hL:iZ c k L):
 ∃ (e:Int) (L':MP),yP c (k:Int)=some e/\zj (nm c k) (L.map (·.1)) (L.map (·.2)) c.U c.aC c.ah c.bT c.aZ=some (.inl (e,L'.map (·.1),L'.map (·.2),c.U,c.aC,c.ah,c.bT,c.aZ))/\(e=0->iZ c (k+1) L'):=by
 obtain ⟨L',h1,h2⟩:=Qe (nm c k) L c.U c.aC c.ah c.bT c.aZ (A8 h ht k hk).2;have e:decide (nm c k∈L.map (·.1))=decide (∃ j,j < k/\nm c j=nm c k):=by
  rw [Bool.eq_iff_iff,decide_eq_true_eq,decide_eq_true_eq];exact hL _
 rw [e] at h1 h2;exact ⟨_,L',Di h ht k hk,h1,fun h0=>hL.more (h2 h0)⟩
end cK
end
