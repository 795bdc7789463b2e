/- Parts of my machine and its laws, joined: P35i P35j. No condition. -/
import Derived.Test.YtafgdbaekppjcaaGreatDoorP35d
set_option linter.unusedSectionVars false
set_option linter.unusedVariables false
set_option linter.unusedSimpArgs false
section
namespace ck
open Go Go.Pl
theorem xG {s:af} (h0:err s=0):yO s=0/\s.Steps.length+cnt s s.Steps.length+2*s.U.toNat<=64:=by
 unfold err at h0;split at h0
 ·omega
 split at h0
 ·cases h0
 ·omega
theorem IV {s:af} (h:Rt s):Gts (cw s):=fun i hi _=>(qg h hi).on
theorem GO {s:af} {x:aS} (hx:x∈chain s):x.Kind≠2:=by
 unfold chain at hx;split at hx
 ·simp only [zad,zaV,or_false] at hx;rcases hx with rfl | rfl<;>exact fun e=>by cases e
 ·obtain ⟨k,hk,rfl⟩:=zaT.1 hx;exact fun e=>by cases e
theorem Pa {s:af} {M:List Int} {n:Nat} {x:aS} (hx:x∈eX s M n):x.Kind=2:=by
 obtain ⟨k,hk,hx⟩:=List.mem_flatMap.1 hx;unfold kD at hx;split at hx
 ·split at hx
  ·cases hx
  ·simp only [zad,zaV,or_false] at hx;subst hx;rfl
 ·cases hx
theorem Pb {s:af} {j:Nat} (hj:j < (cw s).aa.length) (hk:(cw s).aa[j].Kind=2):s.Steps.length<=j:=by
 apply zbk
 intro hn;have hc:j < (chain s).length:=by rw [iq];omega
 have e:(cw s).aa[j]?=some (chain s)[j]:=by
  show ((chain s++eX s (dN s) s.Steps.length)++fk s (dN s) s.U.toNat)[j]?=_;rw [zai (by rw [za8];omega),zai hc,za1 hc]
 rw [za1 hj] at e;injection e with e
 rw [e] at hk;exact GO (zax hc) hk
theorem Pc {s:af} {j:Nat} (h1:s.Steps.length<=j) (h2:j < (base s).length):∃ h:j < (cw s).aa.length,(cw s).aa[j].Kind=2:=by
 have hj:j < (cw s).aa.length:=by
  show j < (base s++fk s (dN s) s.U.toNat).length;rw [za8];omega
 refine ⟨hj,?_⟩;have hc:=iq (s:=s);have hb:(base s).length=(chain s).length+(eX s (dN s) s.Steps.length).length:=za8;have hq:j - (chain s).length < (eX s (dN s) s.Steps.length).length:=by omega
 have e:(cw s).aa[j]?=some (eX s (dN s) s.Steps.length)[j - (chain s).length]:=by
  show (base s++fk s (dN s) s.U.toNat)[j]?=_;rw [zai h2];show (chain s++eX s (dN s) s.Steps.length)[j]?=_;rw [zaj (by omega),za1 hq]
 rw [za1 hj] at e;injection e with e
 rw [e];exact Pa (zax hq)
def u7 (s:af):List Int:=List.replicate s.U.toNat 0
def CG (s:af):List Bool:=List.replicate s.U.toNat false
def ue (s:af):List Int:=List.replicate (cw s).aa.length 0
def Qb (s:af):List Bool:=gW (cw s) (u7 s) [false] (cw s).aa.length (AX (cw s))
def Cw (s:af) (k:Nat):List Bool:=mW (dN s) (fst s) (k:Int) (dN s).length (Qb s)
def jV (s:af) (k:Nat):List Bool:=eV (el s (k+1)) (el s (k+1)).length (CG s)
def jE (s:af) (k:Nat):List Int:=eE (el s (k+1)) (el s (k+1)).length (u7 s)
def jT (s:af) (k:Nat):List Int:=if jy s (tb s) k≥0 then (ue s).set (jy s (tb s) k - fst s).toNat 2 else ue s
def yQ (s:af) (k:Nat):List Bool:=if jy s (tb s) k≥0 then (Cw s k).set (jy s (tb s) k - fst s).toNat true else Cw s k
def jX (s:af) (k:Nat):bM:=⟨jE s k,jV s k,[false],gW (cw s) (jE s k) [false] (cw s).aa.length (yQ s k),jT s k⟩
theorem vz (c:an):(AX c).length=c.aa.length:=by unfold AX;rw [zaa]
theorem B0 (s:af):(Qb s).length=(cw s).aa.length:=by unfold Qb;rw [pZ,vz]
theorem rG (s:af) (k:Nat):(Cw s k).length=(cw s).aa.length:=by unfold Cw;rw [Bz,B0]
theorem B1 (s:af) (k:Nat):(yQ s k).length=(cw s).aa.length:=by
 unfold yQ;split
 ·rw [zbb,rG]
 ·exact rG s k
theorem Gj (s:af) (k:Nat):(jT s k).length=(cw s).aa.length:=by
 unfold jT ue;split
 ·rw [zbb,zap]
 ·rw [zap]
theorem Gk (s:af) (k:Nat):(jE s k).length=s.U.toNat:=by unfold jE u7;rw [sV,zap]
theorem Gm (s:af) (k:Nat):(jV s k).length=s.U.toNat:=by unfold jV CG;rw [wI,zap]
theorem ZS {s:af} (h:Good s):KE (cw s) (u7 s) (CG s) [false] (AX (cw s)) (ue s):=by
 have:=h.a1;refine ⟨?_,?_,rfl,vz _,?_⟩
 ·unfold u7;rw [zap];show _=s.U;omega
 ·unfold CG;rw [zap];show _=s.U;omega
 ·unfold ue;rw [zap]
theorem Lr {s:af} (h:Good s) (k:Nat):KE (cw s) (jE s k) (jV s k) [false] (yQ s k) (jT s k):=by
 have:=h.a1;refine ⟨?_,?_,rfl,B1 s k,Gj s k⟩
 ·rw [Gk];show _=s.U;omega
 ·rw [Gm];show _=s.U;omega
theorem xH {s:af} (h:Good s) {k:Nat} (hk:k < s.Steps.length) (ht:jy s (tb s) k≥0):∃ q:Nat,jy s (tb s) k - fst s=(q:Int)/\s.Steps.length<=q/\q < (base s).length:=by
 have e:=B2 (n:=tb s) hk;have hf:=fQ h.a1 h.a6;have hb:=lF (s:=s);have e2:tb s=fst s+(s.Steps.length:Int):=rfl;by_cases hw:s.Steps[k].cX=0
 ·rw [if_pos hw] at e;omega
 ·rw [if_neg hw] at e;have:=Gn hk hw s.Steps.length hk (za7 _);exact ⟨s.Steps.length+cnt s k,by omega,by omega,by omega⟩
theorem Gp {s:af} (h:Good s) (i:Nat) (hi:i < (dN s).length):fst s<=(dN s)[i]/\(dN s)[i] < fst s+(s.Steps.length:Int):=by
 obtain ⟨j,h1,h2⟩:=IA i hi;rw [h2];omega
theorem Ak {s:af} (h:Rt s) (hz:cG (cw s)) {k:Nat} (hk:k < s.Steps.length):CO (cw s) ⟨jE s k,jV s k,[false],yQ s k,jT s k⟩=some 0:=by
 have hT0:∀ v∈ue s,v=0:=fun v hv=>(List.mem_replicate.1 hv).2
 refine Kb hz (Lr h.toGood k).fit (BA (fun v hv=>by rw [(List.mem_replicate.1 hv).2];omega) _) (fun v hv=>?_) fun j h1 h2 h3=>?_
 ·have hv:v∈jT s k:=hv;unfold jT at hv;split at hv
  ·rcases List.mem_or_eq_of_mem_set hv with hv | hv
   ·rw [hT0 v hv];omega
   ·omega
  ·rw [hT0 v hv];omega
 ·have t0:(ue s)[j]?=some 0:=by unfold ue;rw [zbO,if_pos h1]
  have w2:(cw s).aa[j].Kind=2->(Cw s k)[j]?=some false:=fun hk2=>by
   have hl:=Pb h1 hk2;unfold Cw;rw [B3 hl (Gp h.toGood)];unfold Qb;rw [vp (fun _=>by rw [hk2];decide)];unfold AX;rw [zav,za1 h1];have:=((qg h h1).U3 (by rw [hk2];decide)).2;show some (cw s).aa[j].Init=_;rw [this]
  have gT:(jT s k)[j]?=some (jT s k)[j]:=za1 h2;have gW:(yQ s k)[j]?=some (yQ s k)[j]:=za1 h3;by_cases ht:jy s (tb s) k≥0
  ·obtain ⟨q,q1,q2,q3⟩:=xH h.toGood hk ht;obtain ⟨m1,m2⟩:=Pc q2 q3;have eT:(jT s k)[j]?=((ue s).set q 2)[j]?:=by unfold jT;rw [if_pos ht,q1,zaw]
   have eW:(yQ s k)[j]?=((Cw s k).set q true)[j]?:=by unfold yQ;rw [if_pos ht,q1,zaw]
   rw [gT] at eT;rw [gW] at eW;by_cases e:q=j
   ·subst e;rw [zaG (by unfold ue;rw [zap];exact h1)] at eT;rw [zaG (by rw [rG];exact h1)] at eW;injection eT with eT;injection eW with eW
    rw [if_pos m2];show (yQ s k)[q]=((jT s k)[q]==2);rw [eT,eW];rfl
   ·rw [za6 e,t0] at eT;rw [za6 e] at eW;injection eT with eT
    split
    ·rename_i hk2;rw [w2 hk2] at eW;injection eW with eW
     show (yQ s k)[j]=((jT s k)[j]==2);rw [eT,eW];rfl
    ·exact eT
  ·have eT:(jT s k)[j]?=(ue s)[j]?:=by unfold jT;rw [if_neg ht]
   have eW:(yQ s k)[j]?=(Cw s k)[j]?:=by unfold yQ;rw [if_neg ht]
   rw [gT,t0] at eT;injection eT with eT
   split
   ·rename_i hk2;rw [gW,w2 hk2] at eW;injection eW with eW
    show (yQ s k)[j]=((jT s k)[j]==2);rw [eT,eW];rfl
   ·exact eT
theorem Q6 {n:Int} (h0:0<=n) (h1:n<=1000):iD 8 n (0:Int)=some (List.replicate n.toNat 0):=by
 unfold iD;rw [if_pos ⟨by omega,by omega,by omega⟩]
theorem JO {n:Int} (h0:0<=n) (h1:n<=1000):iD 1 n false=some (List.replicate n.toNat false):=by
 unfold iD;rw [if_pos ⟨by omega,by omega,by omega⟩]
end ck
end
section
namespace ck
open Go Go.Pl
theorem zG {l:List Int} (h:l.length<=1000):bX 8 ([]:List Int) l=some l:=by rw [aM (by simp;omega) (by simp;omega)];rfl
theorem qX {l:List Bool} (h:l.length<=1000):bX 1 ([]:List Bool) l=some l:=by rw [aM (by simp;omega) (by simp;omega)];rfl
theorem Xd {s:af} (h:Good s):KG s=some (fst s):=by
 unfold KG;rw [fst_eq h.a1 h.a6]
theorem Xe {s:af} (h0:err s=0) {k:Nat} (hk:k < s.Steps.length):UG s (k:Int)=some (jX s k,0):=by
 obtain ⟨hc,Yc⟩:=xG h0;have h:=Bs hc;have hz:=tn h.toGood Yc;have hg:=IV h;have h1:=h.a1;have h6:=h.a6;have P8:=hz.s;have VA:=h.n64;have hN:0 < (cw s).aa.length:=by have:=kG h.toGood;omega
 have hf:=fQ h.a1 h.a6;have s0:=ZS h.toGood;have Qc:=BC s (k+1);have YM:(u7 s).length=s.U.toNat:=by unfold u7;rw [zap]
 have lV0:(CG s).length=s.U.toNat:=by unfold CG;rw [zap]
 have lT0:(ue s).length=(cw s).aa.length:=by unfold ue;rw [zap]
 have lI:=vz (cw s);have nz:∀ {α:Type} {l:List α},0 < l.length->l≠[]:=fun h e=>by rw [e] at h;cases h
 obtain ⟨c1,c2⟩:=vq (l:=u7 s) (nz (by omega)) (by omega);obtain ⟨c3,c4⟩:=ot (l:=CG s) (nz (by omega)) (by omega);obtain ⟨c5,c6⟩:=ot (l:=[false]) (by simp) (by simp);obtain ⟨c7,c8⟩:=ot (l:=AX (cw s)) (nz (by omega)) (by omega);obtain ⟨c9,Yt⟩:=vq (l:=ue s) (nz (by omega)) (by omega);have k1:iD 8 (cw s).U (0:Int)=some (u7 s):=Q6 (by show (0:Int)<=s.U;omega) (by show s.U<=1000;omega);have k2:iD 1 (cw s).U false=some (CG s):=JO (by show (0:Int)<=s.U;omega) (by show s.U<=1000;omega);have k3:iD 1 ((cw s).ay.length:Int) false=some [false]:=JO (n:=1) (by omega) (by omega);have k4:iD 1 ((cw s).aa.length:Int) false=some (List.replicate (cw s).aa.length false):=JO (by omega) (by omega);have k5:iD 8 ((cw s).aa.length:Int) (0:Int)=some (ue s):=Q6 (by omega) (by omega);have e:=iM (u7 s);unfold UG;rw [Gr,if_neg (by rw [h0];decide),za];dsimp only;rw [show ((0:Int) !=0)=false from rfl,cond_false,bg (by omega),cond_false,za,decide_eq_false (by omega),cond_false,GD h hz,za,show ((0:Int) !=0)=false from rfl,cond_false];simp only [k1,k2,k3,k4,k5,za];rw [IG (c:=cw s) P8 (ue s) ([false],CG s,u7 s) (fun t=>(t.2.2.2.2,t.2.2.2.1,t.2.2.1,t.2.1,t.1)) (fun s9=>rfl),za];dsimp only;simp only [c1,c2,c3,c4,c5,c6,c7,c8,c9,Yt,za];rw [IF (u7 s).length rfl (by omega),za];dsimp only;rw [aM (by rw [e,YM];simp;omega) (by rw [e,YM];simp;omega),za,aM (by rw [za8,e,YM,lI];simp;omega) (by rw [za8,e,YM,lI];simp;omega),za];have hl:((u7 s).flatMap fun v=>[v==0,v==2])++[false]++AX (cw s)=zq (u7 s) [false] (AX (cw s)):=rfl;rw [hl,IE hz hg s0,za,aq (by omega),Xf hc (by omega),za];dsimp only;rw [show ((0:Int) !=0)=false from rfl,cond_false,SA _ _ _ (by omega) (by omega) (by omega),za];have hP:(dN s).length=s.Steps.length:=fm;have hW1:=B0 s;have iT:=kG h.toGood;rw [show gW (cw s) (u7 s) [false] (cw s).aa.length (AX (cw s))=Qb s from rfl,M8 (f:=fst s) _ _ s.Steps.length (by omega) (by omega) (by omega) (Gp h.toGood),za];dsimp only;rw [rH hk,za];have hW2:=rG s k;by_cases ht:jy s (tb s) k≥0
 ·obtain ⟨q,q1,q2,q3⟩:=xH h.toGood hk ht;have hb:(base s).length<=(cw s).aa.length:=by rw [iT,lF];omega
  have eT:jT s k=(ue s).set q 2:=by unfold jT;rw [if_pos ht,q1,zaw]
  have eW:yQ s k=(Cw s k).set q true:=by unfold yQ;rw [if_pos ht,q1,zaw]
  rw [decide_eq_true ht,cond_true,dI (by omega) (by omega),q1,ax (show q < (ue s).length by omega)];rw [show mW (dN s) (fst s) (k:Int) (dN s).length (Qb s)=Cw s k from rfl,ax (show q < (Cw s k).length by omega)];simp only [za];rw [zaw,<-eT,<-eW];have:=M9 h hz hg (Lr h.toGood k) (Ak h hz hk);rw [show eV (el s (k+1)) (el s (k+1)).length (CG s)=jV s k from rfl,show eE (el s (k+1)) (el s (k+1)).length (u7 s)=jE s k from rfl,this];rfl
 ·have eT:jT s k=ue s:=by unfold jT;rw [if_neg ht]
  have eW:yQ s k=Cw s k:=by unfold yQ;rw [if_neg ht]
  rw [decide_eq_false ht,cond_false,za];dsimp only;have:=M9 h hz hg (Lr h.toGood k) (Ak h hz hk);rw [eT,eW] at this;rw [show mW (dN s) (fst s) (k:Int) (dN s).length (Qb s)=Cw s k from rfl,show eV (el s (k+1)) (el s (k+1)).length (CG s)=jV s k from rfl,show eE (el s (k+1)) (el s (k+1)).length (u7 s)=jE s k from rfl,this];unfold jX;rw [eT,eW];rfl
theorem Xg {s:af} (h0:err s=0) {k:Nat} (hk:k < s.Steps.length):m55 s (k:Int)=some (jX s k):=by
 obtain ⟨hc,Yc⟩:=xG h0;have h:=Bs hc;have hz:=tn h.toGood Yc;have hg:=IV h;have h1:=h.a1;have h6:=h.a6;have P8:=hz.s;have VA:=h.n64;have hf:=fQ h.a1 h.a6;have s0:=ZS h.toGood;have Qc:=BC s (k+1);have YM:(u7 s).length=s.U.toNat:=by unfold u7;rw [zap]
 have lV0:(CG s).length=s.U.toNat:=by unfold CG;rw [zap]
 have lT0:(ue s).length=(cw s).aa.length:=by unfold ue;rw [zap]
 have lI:=vz (cw s);have k1:iD 8 (cw s).U (0:Int)=some (u7 s):=Q6 (by show (0:Int)<=s.U;omega) (by show s.U<=1000;omega);have k2:iD 1 (cw s).U false=some (CG s):=JO (by show (0:Int)<=s.U;omega) (by show s.U<=1000;omega);have k3:iD 1 ((cw s).ay.length:Int) false=some [false]:=JO (n:=1) (by omega) (by omega);have k4:iD 1 ((cw s).aa.length:Int) false=some (List.replicate (cw s).aa.length false):=JO (by omega) (by omega);have k5:iD 8 ((cw s).aa.length:Int) (0:Int)=some (ue s):=Q6 (by omega) (by omega);unfold m55;rw [Xh h.toGood,za];simp only [k1,k2,k3,k4,k5,za];rw [IG (c:=cw s) P8 (ue s) ([false],CG s,u7 s) (fun t=>t) (fun s9=>rfl),za];dsimp only;rw [zG (by omega),za,qX (by omega),za,qX (by simp),za,qX (by omega),za,zG (by omega),za];rw [BR hz hg s0,za,aq (by omega),Xi h (by omega),za];rw [SB _ _ _ _ (by omega) (by omega) (by omega),za,xI h.toGood,za];simp only [Xd h.toGood,za];have hP:(dN s).length=s.Steps.length:=fm;have hW1:=B0 s;have iT:=kG h.toGood;rw [show gW (cw s) (u7 s) [false] (cw s).aa.length (AX (cw s))=Qb s from rfl,M8 (f:=fst s) _ _ s.Steps.length (by omega) (by omega) (by omega) (Gp h.toGood),za];rw [sj h.toGood,za,rH hk,za];have hW2:=rG s k;have lE:=Gk s k;have lV:=Gm s k;have lW:=B1 s k;have lT:=Gj s k;by_cases ht:jy s (tb s) k≥0
 ·obtain ⟨q,q1,q2,q3⟩:=xH h.toGood hk ht;have hb:(base s).length<=(cw s).aa.length:=by rw [iT,lF];omega
  have eT:jT s k=(ue s).set q 2:=by unfold jT;rw [if_pos ht,q1,zaw]
  have eW:yQ s k=(Cw s k).set q true:=by unfold yQ;rw [if_pos ht,q1,zaw]
  rw [decide_eq_true ht,cond_true,dI (by omega) (by omega),q1];dsimp only;rw [ax (show q < (ue s).length by omega)];rw [show mW (dN s) (fst s) (k:Int) (dN s).length (Qb s)=Cw s k from rfl,ax (show q < (Cw s k).length by omega)];simp only [za];rw [zaw,<-eT,<-eW,show eV (el s (k+1)) (el s (k+1)).length (CG s)=jV s k from rfl,show eE (el s (k+1)) (el s (k+1)).length (u7 s)=jE s k from rfl];rw [zG (by omega),za,qX (by omega),za,qX (by simp),za,qX (by omega),za,zG (by omega),za];rw [BR hz hg (Lr h.toGood k)];rfl
 ·have eT:jT s k=ue s:=by unfold jT;rw [if_neg ht]
  have eW:yQ s k=Cw s k:=by unfold yQ;rw [if_neg ht]
  rw [decide_eq_false ht,cond_false,za];dsimp only;rw [show mW (dN s) (fst s) (k:Int) (dN s).length (Qb s)=Cw s k from rfl,<-eT,<-eW,show eV (el s (k+1)) (el s (k+1)).length (CG s)=jV s k from rfl,show eE (el s (k+1)) (el s (k+1)).length (u7 s)=jE s k from rfl];rw [zG (by omega),za,qX (by omega),za,qX (by simp),za,qX (by omega),za,zG (by omega),za];rw [BR hz hg (Lr h.toGood k)];rfl
theorem Na (l:List Int) (h:l.length<=1000):YN l l=some true:=by
 unfold YN;rw [bne_self_eq_false,cond_false];rw [jP l.length (show l.length < 2 ^ 64 by omega) (fun k hk=>by
  rw [bw (show ((k:Nat):Int) < (l.length:Int) by omega),cond_true,ax hk];dsimp only [Option.bind];rw [bne_self_eq_false,cond_false,aq (by omega)]) (by rw [bg (by omega),cond_false])]
 rfl
theorem Gs (l:List Bool) (h:l.length<=1000):Yd l l=some true:=by
 unfold Yd;rw [bne_self_eq_false,cond_false];rw [jP l.length (show l.length < 2 ^ 64 by omega) (fun k hk=>by
  rw [bw (show ((k:Nat):Int) < (l.length:Int) by omega),cond_true,ax hk];dsimp only [Option.bind];rw [beq_self_eq_true,show (true !=true)=false from rfl,cond_false,aq (by omega)]) (by rw [bg (by omega),cond_false])]
 rfl
theorem Nb {x:bM} (h1:x.Ends.length<=1000) (h2:x.iW.length<=1000) (h3:x.ay.length<=1000) (h4:x.cu.length<=1000) (h5:x.aV.length<=1000):Ye x x=some true:=by
 unfold Ye;rw [Na _ h1,Gs _ h2,Gs _ h3,Gs _ h4,Na _ h5];rfl
theorem Pg (s:af):∃ b,m10 s=some b/\(b=true->Small s):=by
 unfold m10;by_cases hs:s.Steps.length<=128
 ·rw [aG (by simp only [decide_eq_false_iff_not];omega)];rw [dY s.Steps (fun x=>bif decide ((x.ah.length:Int) > 40) then some false else none) ?hn () ?h0 ?h ?he]
  case hn=>unfold fuel;omega
  case h0=>rfl
  case he=>
   try dsimp only
   rw [aG (bg (by omega))]
  case h=>
   intro k hk;try dsimp only
   rw [aK (bw (by omega)),ax hk];simp only [za];rw [aq (by omega)]
   cases decide ((s.Steps[k].ah.length:Int) > 40)<;>rfl
  cases hf:s.Steps.findSome? (fun x=>bif decide ((x.ah.length:Int) > 40) then some false else none) with
  | none=>
   refine ⟨true,rfl,fun _=>⟨by omega,fun x hx=>?_⟩⟩;rw [zbt] at hf;have:=hf x hx
   cases hd:decide ((x.ah.length:Int) > 40) with
   | true=>rw [hd] at this;cases this
   | false=>rw [decide_eq_false_iff_not] at hd;omega
  | some r=>
   refine ⟨r,rfl,fun hr=>?_⟩;obtain ⟨x,hx,KM⟩:=zae hf
   cases hd:decide ((x.ah.length:Int) > 40) with
   | true=>rw [hd] at KM;injection KM with KM;rw [hr] at KM;cases KM
   | false=>rw [hd] at KM;cases KM
 ·exact ⟨false,by rw [aK (by simp only [decide_eq_true_eq];omega)],nofun⟩
def noX:bM:=⟨[],[],[],[],[]⟩
theorem jumps (s:af) (hs:Small s) (k:Int):∃ x e,UG s k=some (x,e)/\Yf s k=some (x,e)/\Ye x x=some true:=by
 have no:Ye noX noX=some true:=Nb (by decide) (by decide) (by decide) (by decide) (by decide);by_cases h0:err s=0
 case neg=>
  refine ⟨noX,err s,?_,?_,no⟩
  ·unfold UG;rw [Gr,if_pos h0,za];dsimp only;rw [show (err s !=0)=true from bne_iff_ne.2 h0,cond_true];rfl
  ·unfold Yf;rw [Gt s hs,za,show (err s !=0)=true from bne_iff_ne.2 h0,cond_true];rfl
 by_cases hk:0<=k/\k < (s.Steps.length:Int)
 case neg=>
  refine ⟨noX,2,?_,?_,no⟩
  ·unfold UG;rw [Gr,if_neg (by rw [h0];decide),za];dsimp only;rw [show ((0:Int) !=0)=false from rfl,cond_false];by_cases h1:k < 0
   ·rw [bw h1];rfl
   ·rw [bg h1,cond_false,za,decide_eq_true (by omega)];rfl
  ·unfold Yf;rw [Gt s hs,h0,za,show ((0:Int) !=0)=false from rfl,cond_false];by_cases h1:k < 0
   ·rw [bw h1];rfl
   ·rw [bg h1,cond_false,za,decide_eq_true (by omega)];rfl
 obtain ⟨q,rfl⟩:∃ q:Nat,k=(q:Int):=⟨k.toNat,by omega⟩;have hq:q < s.Steps.length:=by omega
 obtain ⟨hc,Yc⟩:=xG h0;have h:=Bs hc;have hz:=tn h.toGood Yc;have h6:=h.a6;have P8:=hz.s;refine ⟨jX s q,0,Xe h0 hq,?_,Nb (by show (jE s q).length<=1000;rw [Gk];omega) (by show (jV s q).length<=1000;rw [Gm];omega) (by show (1:Nat)<=1000;decide) (by show (gW _ _ _ _ _).length<=1000;rw [pZ,B1];omega) (by show (jT s q).length<=1000;rw [Gj];omega)⟩;unfold Yf;rw [Gt s hs,h0,za,show ((0:Int) !=0)=false from rfl,cond_false,bg (by omega),cond_false,za,decide_eq_false (by omega)];dsimp only;rw [cond_false,Xg h0 hq];rfl
theorem WS (s:af) (k:Int):m5 s k=some true:=by
 obtain ⟨b,h1,h2⟩:=Pg s;unfold m5;rw [h1,za]
 cases b with
 | false=>rfl
 | true=>
  obtain ⟨x,e,e1,e2,e3⟩:=jumps s (h2 rfl) k;rw [zb1,cond_false,e1,e2,za,za,e3,za,cond_true,beq_self_eq_true,cond_true];rfl
end ck
end
