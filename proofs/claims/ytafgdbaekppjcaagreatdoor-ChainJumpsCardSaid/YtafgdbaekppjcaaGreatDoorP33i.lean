/- Parts of my machine and its laws, joined: P33i P33b P33j P33k P33l P33m P33n P34a P34b P34c. No condition. -/
import Derived.Test.YtafgdbaekppjcaaGreatDoorAmP1
set_option linter.unusedSectionVars false
set_option linter.unusedVariables false
set_option linter.unusedSimpArgs false
section
namespace ck
open Go Go.Pl
def pR (s:af) (n:Int) (k:Nat):List ai:=match s.Steps[k]? with
 | some x=>if x.cX=0 then x.ah.map zu else [bq (jy s n k)]
 | none=>[]
theorem rH {s:af} {n:Int} {k:Nat} (hk:k < s.Steps.length):idx (me s n s.Steps.length) (k:Int)=some (jy s n k):=by
 have hlen:(me s n s.Steps.length).length=s.Steps.length:=by simp [me]
 rw [ax (by omega)];simp [me]
theorem Ca (s:af) (n:Int) (hn:0<=n) {k:Nat} (hk:k < s.Steps.length) (h:gE s.Steps[k]):JQ ⟨s,me s n s.Steps.length⟩ k=some (pR s n k):=by
 unfold JQ pR;rw [za1 hk,rH hk];simp only [za,lS];rw [kQ hk hn];by_cases hw:s.Steps[k].cX=0
 ·rw [aG (by simp [hw]),if_pos hw,ax hk];simp only [za];rw [IK _ h];rfl
 ·rw [aK (by simpa using hw),if_neg hw];rfl
theorem B9 (s:af) (n f:Int) (m:List Int) (hn:0<=n) {k:Nat} (hk:k < s.Steps.length) (h:gE s.Steps[k]):FG ⟨s,f,m,me s n s.Steps.length⟩ k=some (pR s n k):=by
 have hle:=h.le;unfold FG pR;rw [za1 hk,rH hk];simp only [za,lR];rw [kQ hk hn];by_cases hw:s.Steps[k].cX=0
 ·rw [aG (by simp [hw]),if_pos hw,ax hk];simp only [za];rw [aT (fun i:Nat=>((i:Int),CF s.Steps[k].ah i)) s.Steps[k].ah.length ?hn (s.Steps[k].ah.map zu) ?h0 ?h ?he]
  case hn=>unfold fuel;omega
  case h0=>simp [CF]
  case he=>
   try dsimp only
   rw [aG (bg (by omega)),BU]
  case h=>
   intro i hi;try dsimp only
   obtain ⟨h1,h2⟩:=h.act i hi;have hl:(CF s.Steps[k].ah i).length=i:=by simp [CF];omega
   have e0:dF .i64 2 s.Steps[k].ah[i].aj=2*s.Steps[k].ah[i].aj:=by unfold dF;exact wrap_i64 (by omega) (by omega)
   rw [aK (bw (by omega)),ax hi];simp only [za,e0];rw [xz hi,aq (by omega)]
   cases ho:s.Steps[k].ah[i].Out with
   | true=>
    simp only [cond_true,za];rw [bA (by omega) (by omega),aM (by simp [hl];omega) (by simp [hl];omega)];simp [zu,ho,bq]
   | false=>
    simp only [cond_false,za];rw [aM (by simp [hl];omega) (by simp [hl];omega)];simp [zu,ho,bq]
  rfl
 ·rw [aK (by simpa using hw),if_neg hw];rfl
end ck
end
section
namespace ck
open Go Go.Pl
def QX (p:List UInt8) (k:Nat):Bool:=decide (FL p k=(K3 k).bind fun v=>oT p v)&&(FL p k).isSome
set_option maxRecDepth 100000
theorem RR:((List.range 100).all fun k=>QX [109] k&&QX [119] k)=true:=by kernel_rfl
theorem Br {p:List UInt8} (hp:p=[109]\/p=[119]) {k:Nat} (hk:k < 100):∃ t,FL p k=some t/\(K3 k).bind (fun v=>oT p v)=some t:=by
 have h:=RR;rw [zaf] at h;have h:=h k (zac.mpr hk);rw [za0] at h;have:QX p k=true:=by
  rcases hp with rfl | rfl
  ·exact h.1
  ·exact h.2
 unfold QX at this;rw [za0,decide_eq_true_eq] at this;obtain ⟨t,ht⟩:=Option.isSome_iff_exists.mp this.2;exact ⟨t,ht,by rw [<-this.1];exact ht⟩
end ck
end
section
namespace ck
open Go Go.Pl
def nameOf (p:List UInt8) (k:Nat):List UInt8:=(FL p k).getD []
def Tl:ai:=⟨0,0,[]⟩
def kD (s:af) (M:List Int) (k:Nat):List aS:=match s.Steps[k]?,M[k]? with
 | some x,some m=>if x.cX=0 then [] else [⟨nameOf [119] k,2,⟨3,0,bq m::x.ah.map zu⟩,Tl,x.cX,false⟩]
 | _,_=>[]
def eX (s:af) (M:List Int) (k:Nat):List aS:=(List.range k).flatMap (kD s M)
theorem lX {s:af} {M:List Int} {k:Nat}:eX s M (k+1)=eX s M k++kD s M k:=by
 unfold eX;rw [zc2,List.flatMap_append];simp
theorem z9 (s:af) (M:List Int) (k:Nat):(kD s M k).length<=1:=by
 unfold kD;split
 ·split<;>simp
 ·simp
theorem nU (s:af) (M:List Int):∀ k,(eX s M k).length<=k
 | 0=>by simp [eX]
 | k+1=>by
  rw [lX,za8];have:=nU s M k;have:=z9 s M k;omega
theorem ZH (x y:ai) (l:List ai):uT 3 (x::y::l)=some ⟨3,0,x::y::l⟩:=by
 unfold uT;rw [aG (by simp;omega)]
theorem Xp (s:af) (n:Int) (M:List Int) (hn:0<=n) (hs:s.Steps.length<=64) (hM:M.length=s.Steps.length) (h:∀ k (h:k < s.Steps.length),gE s.Steps[k]):
 m86 ⟨s,me s n s.Steps.length⟩ M=some (eX s M s.Steps.length):=by
 unfold m86;have hlen:(me s n s.Steps.length).length=s.Steps.length:=by simp [me]
 rw [aT (fun k:Nat=>((k:Int),eX s M k)) s.Steps.length ?hn (eX s M s.Steps.length) ?h0 ?h ?he]
 case hn=>unfold fuel;omega
 case h0=>simp [eX]
 case he=>
  try dsimp only
  rw [aG (bg (by rw [hlen];omega))]
 case h=>
  intro k hk;try dsimp only
  have hc:=nU s M k;have ho:=h k hk;have hle:=ho.le;rw [aK (bw (by rw [hlen];omega)),rH hk];simp only [za,lS];rw [kQ hk hn,lX,aq (by omega)];have e:kD s M k=if s.Steps[k].cX=0 then [] else [⟨nameOf [119] k,2,⟨3,0,bq (M[k]'(by omega))::s.Steps[k].ah.map zu⟩,Tl,s.Steps[k].cX,false⟩]:=by
   unfold kD;rw [za1 hk,za1 (show k < M.length by omega)]
  rw [e];by_cases hw:s.Steps[k].cX=0
  ·rw [aG (by simp [hw]),if_pos hw];simp
  ·rw [aK (by simpa using hw),if_neg hw,ax (show k < M.length by omega),ax hk];simp only [za];rw [IK _ ho];simp only [za,ai.gy];obtain ⟨t,ht,_⟩:=Br (p:=[119]) (.inr rfl) (show k < 100 by omega);rw [aM (by simp;omega) (by simp;omega),ht];have hnm:nameOf [119] k=t:=by unfold nameOf;rw [ht];rfl
   obtain ⟨y,l,YI⟩:∃ y l,s.Steps[k].ah.map zu=y::l:=by
    cases hq:s.Steps[k].ah with
    | nil=>have:=ho.pos;rw [hq] at this;simp at this
    | cons a l=>exact ⟨_,_,rfl⟩
   simp only [za,zbT];rw [YI,ZH,hnm];simp only [za,ai.gy];rw [aM (by simp;omega) (by simp;omega)];rfl
 rfl
end ck
end
section
namespace ck
open Go Go.Pl
theorem Sg (s:af) (f:Int) (M T:List Int) (hs:s.Steps.length<=64) (hM:M.length=s.Steps.length) (h:∀ k (h:k < s.Steps.length),gE s.Steps[k]):
 QJ ⟨s,f,M,T⟩=some (eX s M s.Steps.length):=by
 unfold QJ;rw [aT (fun k:Nat=>((k:Int),eX s M k)) s.Steps.length ?hn (eX s M s.Steps.length) ?h0 ?h ?he]
 case hn=>unfold fuel;omega
 case h0=>simp [eX]
 case he=>
  try dsimp only
  rw [aG (bg (by omega))]
 case h=>
  intro k hk;try dsimp only
  have hc:=nU s M k;have ho:=h k hk;have hle:=ho.le;have hwt:=ho.wait;rw [aK (bw (by omega)),ax hk];simp only [za,lR];rw [lX,aq (by omega)];have e:kD s M k=if s.Steps[k].cX=0 then [] else [⟨nameOf [119] k,2,⟨3,0,bq (M[k]'(by omega))::s.Steps[k].ah.map zu⟩,Tl,s.Steps[k].cX,false⟩]:=by
   unfold kD;rw [za1 hk,za1 (show k < M.length by omega)]
  rw [e];by_cases hw:s.Steps[k].cX=0
  ·rw [aG (by simp;omega),if_pos hw];simp
  ·rw [aK (by simp;omega),if_neg hw,ax (show k < M.length by omega)];simp only [za,ai.gy];rw [aT (fun i:Nat=>((i:Int),eX s M k,[bq (M[k]'(by omega))],CF s.Steps[k].ah i)) s.Steps[k].ah.length ?hn (eX s M k,[bq (M[k]'(by omega))],s.Steps[k].ah.map zu) ?h0 ?h ?he]
   case hn=>unfold fuel;omega
   case h0=>simp [CF]
   case he=>
    try dsimp only
    rw [aG (bg (by omega)),BU]
   case h=>
    intro i hi;try dsimp only
    obtain ⟨h1,h2⟩:=ho.act i hi;have hl:(CF s.Steps[k].ah i).length=i:=by simp [CF];omega
    have e0:dF .i64 2 s.Steps[k].ah[i].aj=2*s.Steps[k].ah[i].aj:=by unfold dF;exact wrap_i64 (by omega) (by omega)
    rw [aK (bw (by omega)),ax hi];simp only [za,e0];rw [xz hi,aq (by omega)]
    cases hx:s.Steps[k].ah[i].Out with
    | true=>
     simp only [cond_true,za];rw [bA (by omega) (by omega),aM (by simp [hl];omega) (by simp [hl];omega)];simp [zu,hx,bq]
    | false=>
     simp only [cond_false,za];rw [aM (by simp [hl];omega) (by simp [hl];omega)];simp [zu,hx,bq]
   simp only [za];obtain ⟨t,ht,ht2⟩:=Br (p:=[119]) (.inr rfl) (show k < 100 by omega);obtain ⟨v,hv,hv2⟩:=zbf.mp ht2;rw [aM (by simp;omega) (by simp;omega),hv];simp only [za];rw [hv2];have hnm:nameOf [119] k=t:=by unfold nameOf;rw [ht];rfl
   obtain ⟨y,l,YI⟩:∃ y l,s.Steps[k].ah.map zu=y::l:=by
    cases hq:s.Steps[k].ah with
    | nil=>have:=ho.pos;rw [hq] at this;simp at this
    | cons a l=>exact ⟨_,_,rfl⟩
   simp only [za,zbT];rw [YI,rV,ZH,hnm];simp only [za,ai.gy];rw [aM (by simp;omega) (by simp;omega)];rfl
 rfl
end ck
end
section
namespace ck
open Go Go.Pl
structure Good (s:af):Prop where
 a1:1<=s.U
 a6:s.U<=6
 n0:0 < s.Steps.length
 n64:s.Steps.length<=64
 step:∀ i (h:i < s.Steps.length),gE s.Steps[i]
theorem xm {s:af} (h:yO s=0):Good s:=by
 unfold yO at h;split at h
 ·omega
 split at h
 ·omega
 split at h
 ·omega
 rename_i h1 h2 h3;split at h
 ·rename_i r hr;exfalso;subst h;unfold first at hr
  obtain ⟨k,_,hk⟩:=zae hr;unfold nv at hk;split at hk
  ·simp at hk
  ·split at hk
   ·rename_i h;injection hk with hk;exact h hk
   ·simp at hk
 ·rename_i hf;rw [bC] at hf;exact ⟨by omega,by omega,by omega,by omega,fun i hi=>(oC hi (hf i hi)).1.ok⟩
def sev (a:Int):List ai->ai
 | [x]=>x
 | l=>⟨a,0,l⟩
theorem nR (a:Int) (l:List ai):uT a l=some (sev a l):=by
 unfold uT;match l with
 | []=>rfl
 | [x]=>show some (⟨x.Op,x.Index,x.au⟩:ai)=_;rw [ai.gy];rfl
 | x::y::l=>rw [aG (by simp;omega)];rfl
def tb (s:af):Int:=fst s+(s.Steps.length:Int)
def dN (s:af):List Int:=if s.Steps.length=2 then [fst s+1,fst s] else mods (fst s) s.Steps.length
def qb (s:af) (k:Nat):aS:=
 ⟨nameOf [109] k,1,sev 3 (bq (fst s+((k+s.Steps.length - 1) % s.Steps.length:Nat))::pR s (tb s) ((k+s.Steps.length - 1) % s.Steps.length)++if k=0 then [bq (2*s.U)] else []),
  bq (fst s+((k+1) % s.Steps.length:Nat)),0,(k:Int)==(s.Steps.length:Int) - 1⟩
def dc (s:af) (k:Nat):List aS:=(List.range k).map (qb s)
theorem sA {s:af} {k:Nat}:dc s (k+1)=dc s k++[qb s k]:=by
 unfold dc;rw [zc2,zal];rfl
def chain (s:af):List aS:=if s.Steps.length=2 then
 [⟨[109,49],1,sev 3 (pR s (tb s) 0),sev 3 (pR s (tb s) 1++[bq (2*s.U)]),0,true⟩,⟨[109,48],0,⟨2,0,[bq (fst s)]⟩,Tl,0,false⟩]
 else dc s s.Steps.length
theorem Je {s:af} (h:Good s) {n:Int} {k:Nat} (hk:k < s.Steps.length):∃ y l,pR s n k=y::l:=by
 unfold pR;rw [za1 hk];dsimp only;split
 ·cases hq:s.Steps[k].ah with
  | nil=>have:=(h.step k hk).pos;rw [hq] at this;simp at this
  | cons a l=>exact ⟨_,_,rfl⟩
 ·exact ⟨_,_,rfl⟩
theorem j4 {s:af} (h:Good s) {n:Int} {k:Nat} (hk:k < s.Steps.length):(pR s n k).length<=6:=by
 unfold pR;rw [za1 hk];dsimp only;split
 ·simpa using (h.step k hk).le
 ·simp
theorem abE {s:af} (h:Good s):Yv s=some ⟨s,fst s,dN s,me s (tb s) s.Steps.length⟩:=by
 rw [Xn s h.n64 h.a1 h.a6 (fun x hx=>by obtain ⟨k,hk,rfl⟩:=zaE hx;exact (h.step k hk).wait.1)];rfl
theorem Rk {s:af} (h:Good s):dF .i64 2 s.U=2*s.U:=by
 have:=h.a1;have:=h.a6;exact gI (by omega) (by omega)
theorem Jf {k n:Nat} (hk:k < n) (hn:n<=64):pI (ct .i64 (aE .i64 (k:Int) (n:Int)) 1) (n:Int)=some (((k+n - 1) % n:Nat):Int):=by
 rw [bA (by omega) (by omega),dI (by omega) (by omega),show (k:Int)+(n:Int) - 1=((k+n - 1:Nat):Int) by omega];unfold pI;rw [if_neg (by omega),Int.ofNat_tmod]
theorem Jg {k n:Nat} (hk:k < n) (hn:n<=64):pI (aE .i64 (k:Int) 1) (n:Int)=some (((k+1) % n:Nat):Int):=by
 rw [aq (by omega)];unfold pI;rw [if_neg (by omega),Int.ofNat_tmod]
theorem HX {s:af} (h:Good s):0<=tb s:=by
 have:=fQ h.a1 h.a6;unfold tb;omega
theorem S6 {s:af} (h:Good s):QI ⟨s,fst s,dN s,me s (tb s) s.Steps.length⟩=some (chain s):=by
 have hn0:=h.n0;have hn:=h.n64;have hf:=fQ h.a1 h.a6;have htb:=HX h;unfold QI QH;dsimp only;simp only [Rk h,lR,za,rV,nR];by_cases h2:s.Steps.length=2
 ·rw [aK (by simp [h2])];rw [show (0:Int)=((0:Nat):Int) from rfl,B9 s (tb s) (fst s) (dN s) htb (k:=0) (by omega) (h.step 0 (by omega))];rw [show (1:Int)=((1:Nat):Int) from rfl,B9 s (tb s) (fst s) (dN s) htb (k:=1) (by omega) (h.step 1 (by omega))];simp only [za];obtain ⟨y,l,e⟩:=Je h (n:=tb s) (k:=1) (by omega);have hl:=j4 h (n:=tb s) (k:=1) (by omega);have en:ia (pR s (tb s) 1)=some ():=by rw [e];rfl
  rw [en];simp only [za,ai.gy];rw [aM (by simp;omega) (by simp;omega)];have ei:idx (dN s) ((1:Nat):Int)=some (fst s):=by unfold dN;rw [if_pos h2];rfl
  rw [ei];simp only [za,ai.gy];unfold chain;rw [if_pos h2];rfl
 ·rw [aG (by simp;omega)];have hp:dN s=mods (fst s) s.Steps.length:=by unfold dN;rw [if_neg h2]
  rw [aT (fun k:Nat=>((k:Int),dc s k)) s.Steps.length ?hn (dc s s.Steps.length) ?h0 ?h ?he]
  case hn=>unfold fuel;omega
  case h0=>simp [dc]
  case he=>
   try dsimp only
   rw [aG (bg (by omega))]
  case h=>
   intro k hk;try dsimp only
   have Qv:(k+s.Steps.length - 1) % s.Steps.length < s.Steps.length:=zc4 _ hn0;have Y0:(k+1) % s.Steps.length < s.Steps.length:=zc4 _ hn0;have mi:∀ j,j < s.Steps.length->idx (dN s) (j:Int)=some (fst s+(j:Int)):=by
    intro j hj;rw [hp,ax (show j < (mods (fst s) s.Steps.length).length by simp [mods];exact hj)];simp [mods]
   rw [aK (bw (by omega)),Jf hk hn,Jg hk hn];simp only [za];rw [mi _ Qv];simp only [za];rw [B9 s (tb s) (fst s) (dN s) htb Qv (h.step _ Qv)];have hl:=j4 h (n:=tb s) Qv;simp only [za,ai.gy];rw [aM (by simp;omega) (by simp;omega)];simp only [za,ai.gy];obtain ⟨t,ht,ht2⟩:=Br (p:=[109]) (.inl rfl) (show k < 100 by omega);obtain ⟨v,hv,hv2⟩:=zbf.mp ht2;have hnm:nameOf [109] k=t:=by unfold nameOf;rw [ht];rfl
   have hml:(dc s k).length=k:=by simp [dc]
   rw [sA];have hsub:ct .i64 (s.Steps.length:Int) 1=(s.Steps.length:Int) - 1:=dI (by omega) (by omega);by_cases Fp:k=0
   ·rw [aK (by simp [Fp]),aM (by simp;omega) (by simp;omega)];simp only [za,ai.gy];rw [hv];simp only [za];rw [hv2,mi _ Y0];simp only [za,ai.gy];rw [aM (by simp [hml];omega) (by simp [hml];omega)];simp only [za,zb1,cond_false];rw [hsub,aq (by omega)];unfold qb;rw [if_pos Fp,hnm];rfl
   ·rw [aG (by simp;omega)];simp only [za,ai.gy];rw [hv];simp only [za];rw [hv2,mi _ Y0];simp only [za,ai.gy];rw [aM (by simp [hml];omega) (by simp [hml];omega)];simp only [za,zb1,cond_false];rw [hsub,aq (by omega)];unfold qb;rw [if_neg Fp,hnm];simp
  unfold chain;rw [if_neg h2];rfl
theorem sj {s:af} (h:Good s):Qt s=some ⟨s,me s (tb s) s.Steps.length⟩:=XB s h.n64 h.a1 h.a6
theorem xI {s:af} (h:Good s):Tu s=some (dN s):=XC s h.n64 h.a1 h.a6
theorem XD {s:af} (h:Good s):m85 s=some (chain s):=by
 have hn0:=h.n0;have hn:=h.n64;have hf:=fQ h.a1 h.a6;have htb:=HX h;unfold m85 VJ;rw [sj h,xI h];simp only [Rk h,lS,za,nR];by_cases h2:s.Steps.length=2
 ·rw [aK (by simp [h2])];rw [show (0:Int)=((0:Nat):Int) from rfl,Ca s (tb s) htb (k:=0) (by omega) (h.step 0 (by omega))];rw [show (1:Int)=((1:Nat):Int) from rfl,Ca s (tb s) htb (k:=1) (by omega) (h.step 1 (by omega))];simp only [za];have hl:=j4 h (n:=tb s) (k:=1) (by omega);rw [aM (by simp;omega) (by simp;omega)];simp only [za,ai.gy,zc3];rw [aM (by simp;omega) (by simp;omega)];have ei:idx (dN s) ((1:Nat):Int)=some (fst s):=by unfold dN;rw [if_pos h2];rfl
  rw [ei];simp only [za,ai.gy];unfold chain;rw [if_pos h2];rfl
 ·rw [aG (by simp;omega)];have hp:dN s=mods (fst s) s.Steps.length:=by unfold dN;rw [if_neg h2]
  rw [aT (fun k:Nat=>((k:Int),dc s k)) s.Steps.length ?hn (dc s s.Steps.length) ?h0 ?h ?he]
  case hn=>unfold fuel;omega
  case h0=>simp [dc]
  case he=>
   try dsimp only
   rw [aG (bg (by omega))]
  case h=>
   intro k hk;try dsimp only
   have Qv:(k+s.Steps.length - 1) % s.Steps.length < s.Steps.length:=zc4 _ hn0;have Y0:(k+1) % s.Steps.length < s.Steps.length:=zc4 _ hn0;have mi:∀ j,j < s.Steps.length->idx (dN s) (j:Int)=some (fst s+(j:Int)):=by
    intro j hj;rw [hp,ax (show j < (mods (fst s) s.Steps.length).length by simp [mods];exact hj)];simp [mods]
   rw [aK (bw (by omega)),Jf hk hn,Jg hk hn];simp only [za];rw [mi _ Qv];simp only [za];rw [Ca s (tb s) htb Qv (h.step _ Qv)];have hl:=j4 h (n:=tb s) Qv;simp only [za,ai.gy];rw [aM (by simp;omega) (by simp;omega)];simp only [za,ai.gy];obtain ⟨t,ht,ht2⟩:=Br (p:=[109]) (.inl rfl) (show k < 100 by omega);have hnm:nameOf [109] k=t:=by unfold nameOf;rw [ht];rfl
   have hml:(dc s k).length=k:=by simp [dc]
   rw [sA];have hsub:ct .i64 (s.Steps.length:Int) 1=(s.Steps.length:Int) - 1:=dI (by omega) (by omega);by_cases Fp:k=0
   ·rw [aK (by simp [Fp]),aM (by simp;omega) (by simp;omega)];simp only [za,ai.gy];rw [ht,mi _ Y0];simp only [za,ai.gy];rw [aM (by simp [hml];omega) (by simp [hml];omega)];simp only [za];rw [hsub,aq (by omega)];unfold qb;rw [if_pos Fp,hnm];rfl
   ·rw [aG (by simp;omega)];simp only [za,ai.gy];rw [ht,mi _ Y0];simp only [za,ai.gy];rw [aM (by simp [hml];omega) (by simp [hml];omega)];simp only [za];rw [hsub,aq (by omega)];unfold qb;rw [if_neg Fp,hnm];simp
  unfold chain;rw [if_neg h2];rfl
end ck
end
section
namespace ck
open Go Go.Pl
def hit (a:Int) (o:Bool) (y:bS):Bool:=y.aj==a&&y.Out==o
theorem zY (l:List bS) (p:bS->Bool):(match first l.length (fun k=>match l[k]? with | some b=>bif p b then some (k:Int) else none | none=>none) with | none=>decide ((-1:Int)≥0) | some r=>decide (r≥0))=l.any p:=by
 cases hf:first l.length (fun k=>match l[k]? with | some b=>bif p b then some (k:Int) else none | none=>none) with
 | none=>
  rw [bC] at hf;have:(l.any p)=false:=by
   rw [zbd];intro b hb;obtain ⟨k,hk,rfl⟩:=zaE hb;have:=hf k hk;rw [za1 hk] at this;dsimp only at this;intro hc;rw [hc] at this;simp at this
  rw [this];rfl
 | some r=>
  unfold first at hf
  obtain ⟨k,hk,hr⟩:=zae hf;have hk':k < l.length:=by simpa using hk
  rw [za1 hk'] at hr;dsimp only at hr
  cases hb:p l[k] with
  | false=>rw [hb] at hr;simp at hr
  | true=>
   rw [hb] at hr;simp only [cond_true,za2] at hr;have:l.any p=true:=by
    rw [zbq];exact ⟨l[k],zax hk',hb⟩
   rw [this];subst hr;simp
theorem Ry (x:bS) (a:Int):QK x a=some (hit a true x):=by
 unfold QK hit;cases x.Out<;>simp
theorem Rz (x:bS) (a:Int):QL x a=some (hit a false x):=by
 unfold QL hit;cases x.Out<;>simp
theorem EN (l:List bS) (a:Int) (hl:l.length<=6):rP l a=some (l.any (hit a true)):=by
 unfold rP xb;rw [bp (fun k:Nat=>(k:Int)) (fun k=>match l[k]? with | some b=>bif hit a true b then some (k:Int) else none | none=>none) l.length ?hn () ?h0 ?h ?he]
 case hn=>unfold fuel;omega
 case h0=>rfl
 case he=>
  intro _;try dsimp only
  rw [aG (bg (by omega))]
 case h=>
  intro k hk _;try dsimp only
  rw [aK (bw (by omega)),ax hk,za1 hk];simp only [za,Ry];rw [aq (by omega)]
  cases hit a true l[k]<;>rfl
 rw [<-zY l (hit a true)]
 cases first l.length (fun k=>match l[k]? with | some b=>bif hit a true b then some (k:Int) else none | none=>none)<;>rfl
theorem EO (l:List bS) (a:Int) (hl:l.length<=6):rR l a=some (l.any (hit a false)):=by
 unfold rR xd;rw [bp (fun k:Nat=>(k:Int)) (fun k=>match l[k]? with | some b=>bif hit a false b then some (k:Int) else none | none=>none) l.length ?hn () ?h0 ?h ?he]
 case hn=>unfold fuel;omega
 case h0=>rfl
 case he=>
  intro _;try dsimp only
  rw [aG (bg (by omega))]
 case h=>
  intro k hk _;try dsimp only
  rw [aK (bw (by omega)),ax hk,za1 hk];simp only [za,Rz];rw [aq (by omega)]
  cases hit a false l[k]<;>rfl
 rw [<-zY l (hit a false)]
 cases first l.length (fun k=>match l[k]? with | some b=>bif hit a false b then some (k:Int) else none | none=>none)<;>rfl
def yR (s:af) (M:List Int) (a:Int) (o:Bool):Nat->List ai
 | 0=>[]
 | k+1=>yR s M a o k++(match s.Steps[k]?,M[k]? with | some x,some m=>if x.ah.any (hit a o) then [bq m] else [] | _,_=>[])
theorem rU {s:af} {M:List Int} {a:Int} {o:Bool} {k:Nat} (hk:k < s.Steps.length) (hm:k < M.length):yR s M a o (k+1)=yR s M a o k++if s.Steps[k].ah.any (hit a o) then [bq M[k]] else []:=by
 rw [yR,za1 hk,za1 hm]
theorem ru (s:af) (M:List Int) (a:Int) (o:Bool):∀ k,(yR s M a o k).length<=k
 | 0=>za7 _
 | k+1=>by
  have:=ru s M a o k;rw [yR,za8];split
  ·split<;>simp<;>omega
  ·simp;omega
def vY (a:Nat) (o:Bool):List UInt8:=[UInt8.ofNat (97+a),if o then 112 else 109]
def ie (s:af) (M:List Int) (a:Nat) (o:Bool):aS:=⟨vY a o,0,sev 4 (yR s M a o s.Steps.length),Tl,0,false⟩
def fk (s:af) (M:List Int) (k:Nat):List aS:=(List.range k).flatMap fun a=>[ie s M a true,ie s M a false]
theorem tw {s:af} {M:List Int} {k:Nat}:fk s M (k+1)=fk s M k++[ie s M k true,ie s M k false]:=by
 unfold fk;rw [zc2,List.flatMap_append];simp
theorem lD (s:af) (M:List Int):∀ k,(fk s M k).length=2*k
 | 0=>by simp [fk]
 | k+1=>by rw [tw,za8,lD s M k];simp;omega
theorem EP (s:af) (f:Int) (M T:List Int) (nm:List UInt8) (a:Int) (hs:s.Steps.length<=64) (hM:M.length=s.Steps.length) (h:∀ k (h:k < s.Steps.length),gE s.Steps[k]):
 rQ ⟨s,f,M,T⟩ nm a=some ⟨nm,0,sev 4 (yR s M a true s.Steps.length),Tl,0,false⟩:=by
 unfold rQ;rw [aT (fun k:Nat=>((k:Int),([]:List UInt8),(0:Int),(0:Int),(0:Int),([]:List ai),(0:Int),(0:Int),([]:List ai),(0:Int),false,yR s M a true k)) s.Steps.length ?hn (([]:List UInt8),(0:Int),(0:Int),(0:Int),([]:List ai),(0:Int),(0:Int),([]:List ai),(0:Int),false,yR s M a true s.Steps.length) ?h0 ?h ?he]
 case hn=>unfold fuel;omega
 case h0=>rfl
 case he=>
  try dsimp only
  rw [aG (bg (by omega))]
 case h=>
  intro k hk;try dsimp only
  have hl:=ru s M a true k;rw [aK (bw (by omega)),ax hk];simp only [za];rw [EN _ a (h k hk).le,rU hk (by omega),aq (by omega)];simp only [za]
  cases s.Steps[k].ah.any (hit a true) with
  | true=>
   simp only [cond_true];rw [ax (show k < M.length by omega)];simp only [za,lR,ai.gy];rw [aM (by simp;omega) (by simp;omega)];rfl
  | false=>simp
 simp only [za,rV,nR,ai.gy];rfl
theorem ES (s:af) (f:Int) (M T:List Int) (nm:List UInt8) (a:Int) (hs:s.Steps.length<=64) (hM:M.length=s.Steps.length) (h:∀ k (h:k < s.Steps.length),gE s.Steps[k]):
 rS ⟨s,f,M,T⟩ nm a=some ⟨nm,0,sev 4 (yR s M a false s.Steps.length),Tl,0,false⟩:=by
 unfold rS;rw [aT (fun k:Nat=>((k:Int),([]:List UInt8),(0:Int),(0:Int),(0:Int),([]:List ai),(0:Int),(0:Int),([]:List ai),(0:Int),false,yR s M a false k)) s.Steps.length ?hn (([]:List UInt8),(0:Int),(0:Int),(0:Int),([]:List ai),(0:Int),(0:Int),([]:List ai),(0:Int),false,yR s M a false s.Steps.length) ?h0 ?h ?he]
 case hn=>unfold fuel;omega
 case h0=>rfl
 case he=>
  try dsimp only
  rw [aG (bg (by omega))]
 case h=>
  intro k hk;try dsimp only
  have hl:=ru s M a false k;rw [aK (bw (by omega)),ax hk];simp only [za];rw [EO _ a (h k hk).le,rU hk (by omega),aq (by omega)];simp only [za]
  cases s.Steps[k].ah.any (hit a false) with
  | true=>
   simp only [cond_true];rw [ax (show k < M.length by omega)];simp only [za,lR,ai.gy];rw [aM (by simp;omega) (by simp;omega)];rfl
  | false=>simp
 simp only [za,rV,nR,ai.gy];rfl
theorem gE.lt {x:cz} (h:gE x):∀ (d j:Nat) (hj:j+1+d < x.ah.length),x.ah[j].aj < x.ah[j+1+d].aj
 | 0,j,hj=>h.inc j hj
 | d+1,j,hj=>Int.lt_trans (h.lt d j (by omega)) (h.inc (j+1+d) hj)
theorem Ou {x:cz} (h:gE x) {a:Int} {o:Bool} {i:Nat} (hi:i < x.ah.length) (hh:hit a o x.ah[i]=true):(x.ah.take i).any (hit a o)=false:=by
 rw [zbd];intro y hy hc;obtain ⟨j,hj,rfl⟩:=zaE hy;have hj':j < i:=by rw [zbc] at hj;omega
 rw [zar] at hc;have:=h.lt (i - j - 1) j (by omega);simp only [show j+1+(i - j - 1)=i by omega] at this;unfold hit at hh hc;simp only [za0,beq_iff_eq] at hh hc;omega
theorem RA {a:Nat} (h:a < 6):mj ([97,98,99,100,101,102]:List UInt8) (some (a:Int)) (some ((a+1:Nat):Int))=some [UInt8.ofNat (97+a)]:=by
 have:a=0\/a=1\/a=2\/a=3\/a=4\/a=5:=by omega
 rcases this with rfl | rfl | rfl | rfl | rfl | rfl<;>rfl
theorem rune {a:Nat} (h:a < 6):(Utf8.encode (IntKind.wrap .i32 (aE .i64 97 (a:Int)))).data.toList=[UInt8.ofNat (97+a)]:=by
 have:a=0\/a=1\/a=2\/a=3\/a=4\/a=5:=by omega
 rcases this with rfl | rfl | rfl | rfl | rfl | rfl<;>rfl
theorem Dv (a:Nat) (n:UInt8):oT [UInt8.ofNat (97+a)] [n]=some [UInt8.ofNat (97+a),n]:=by
 unfold oT;rw [if_pos (by simp)];rfl
theorem Wi (s:af) (M T:List Int) (h0:1<=s.U) (h1:s.U<=6) (hs:s.Steps.length<=64) (hM:M.length=s.Steps.length) (h:∀ k (h:k < s.Steps.length),gE s.Steps[k]):
 m88 ⟨s,T⟩ M=some (fk s M s.U.toNat):=by
 unfold m88;rw [aT (fun k:Nat=>((k:Int),fk s M k)) s.U.toNat ?hn (fk s M s.U.toNat) ?h0 ?h ?he]
 case hn=>unfold fuel;omega
 case h0=>simp [fk]
 case he=>
  try dsimp only
  rw [aG (bg (by omega))]
 case h=>
  intro a ha;try dsimp only
  have dg:=lD s M a;rw [aK (bw (by omega)),tw,aq (by omega)];rw [aT (fun k:Nat=>((k:Int),fk s M a++(([true,false]:List Bool).take k).map (ie s M a))) 2 ?hn (fk s M a++[ie s M a true,ie s M a false]) ?h0 ?h ?he]
  case hn=>unfold fuel;omega
  case h0=>simp
  case he=>rfl
  case h=>
   intro k hk;try dsimp only
   have hk':k < ([true,false]:List Bool).length:=hk;rw [aK (bw (by simp;omega)),ax hk'];simp only [za];have et:(([true,false]:List Bool).take (k+1)).map (ie s M a)=(([true,false]:List Bool).take k).map (ie s M a)++[ie s M a (([true,false]:List Bool)[k])]:=by
    rw [zb8,za1 hk',zal];rfl
   rw [et,<-zaH];have hle:(fk s M a++(([true,false]:List Bool).take k).map (ie s M a)).length<=12+2:=by
    rw [za8,dg,zaa,zbc];simp;omega
   generalize fk s M a++(([true,false]:List Bool).take k).map (ie s M a)=acc at hle ⊢;generalize ([true,false]:List Bool)[k]=o;rw [aT (fun j:Nat=>((j:Int),acc,yR s M a o j)) s.Steps.length ?hn (acc,yR s M a o s.Steps.length) ?h0 ?h ?he]
   case hn=>unfold fuel;omega
   case h0=>rfl
   case he=>
    try dsimp only
    rw [aG (bg (by omega))]
   case h=>
    intro j hj;try dsimp only
    have hl:=ru s M a o j;have hx:=h j hj;have hxl:=hx.le;rw [aK (bw (by omega)),rU hj (by omega),aq (by omega)];rw [aT (fun i:Nat=>((i:Int),acc,yR s M a o j++if (s.Steps[j].ah.take i).any (hit a o) then [bq (M[j]'(by omega))] else [])) s.Steps[j].ah.length ?hn (acc,yR s M a o j++if s.Steps[j].ah.any (hit a o) then [bq (M[j]'(by omega))] else []) ?h0 ?h ?he]
    case hn=>unfold fuel;omega
    case h0=>simp
    case he=>
     try dsimp only
     rw [ax hj];simp only [za];rw [aG (bg (by omega)),zbr]
    case h=>
     intro i hi;try dsimp only
     rw [ax hj];simp only [za];rw [aK (bw (by omega)),ax hi];simp only [za,lS,ai.gy];have eh:((s.Steps[j].ah[i].aj==(a:Int)&&(s.Steps[j].ah[i].Out==o&&true)) !=false)=hit a o s.Steps[j].ah[i]:=by
      unfold hit;simp
     have ea:(s.Steps[j].ah.take (i+1)).any (hit a o)=((s.Steps[j].ah.take i).any (hit a o)||hit a o s.Steps[j].ah[i]):=by
      rw [zb8,za1 hi,List.any_append];simp
     rw [eh,ea,aq (by omega)]
     cases hb:hit a o s.Steps[j].ah[i] with
     | true=>
      rw [Ou hx hi hb];simp only [cond_true];rw [ax (show j < M.length by omega)];simp only [za];rw [if_neg (by simp),zbm,aM (by simp;omega) (by simp;omega)];simp
     | false=>simp
    rfl
   simp only [za];rw [RA (show a < 6 by omega)];simp only [za,nR,Dv]
   cases o with
   | true=>
    simp only [cond_true,za,ai.gy];rw [aM (by simp;omega) (by simp;omega),aq (by omega)];rfl
   | false=>
    simp only [cond_false,za,ai.gy];rw [aM (by simp;omega) (by simp;omega),aq (by omega)];rfl
  rfl
 rfl
end ck
end
section
namespace ck
open Go Go.Pl
theorem fm {s:af}:(dN s).length=s.Steps.length:=by
 unfold dN;split
 ·rename_i h;rw [h];rfl
 ·simp [mods]
theorem iq {s:af}:(chain s).length=s.Steps.length:=by
 unfold chain;split
 ·rename_i h;rw [h];rfl
 ·simp [dc]
theorem wV {s:af} {M:List Int} (hM:M.length=s.Steps.length):∀ k,k<=s.Steps.length->(eX s M k).length=cnt s k
 | 0,_=>by simp [eX,cnt]
 | k+1,hk=>by
  have hk':k < s.Steps.length:=by omega
  rw [lX,za8,wV hM k (by omega),iR hk'];unfold kD;rw [za1 hk',za1 (show k < M.length by omega)];dsimp only;split<;>simp
def base (s:af):List aS:=chain s++eX s (dN s) s.Steps.length
theorem lF {s:af}:(base s).length=s.Steps.length+cnt s s.Steps.length:=by
 unfold base;rw [za8,iq,wV fm _ (za7 _)]
def pm (s:af) (d:Int) (k:Nat):List Int:=(List.range k).map fun j:Nat=>fst s+((base s).length:Int)+2*(j:Int)+d
theorem vF {s:af} {d:Int} {k:Nat}:pm s d (k+1)=pm s d k++[fst s+((base s).length:Int)+2*(k:Int)+d]:=by
 unfold pm;rw [zc2,zal];rfl
theorem wz {s:af} {d:Int} {k:Nat}:(pm s d k).length=k:=by simp [pm]
def cw (s:af):an:=⟨s.U,[[115,116,97,114,116]],base s++fk s (dN s) s.U.toNat,pm s 0 s.U.toNat,pm s 1 s.U.toNat⟩
theorem EF {s:af} (h:Good s):ia (chain s)=some ():=by
 have:=h.n0;have e:=iq (s:=s)
 cases hq:chain s with
 | nil=>rw [hq] at e;simp at e;omega
 | cons a l=>rfl
theorem XT {s:af} (h:Good s):m83 ⟨s,fst s,dN s,me s (tb s) s.Steps.length⟩=some (cw s):=by
 have Ql:=h.a1;have Yq:=h.a6;have hn:=h.n64;have hf:=fQ h.a1 h.a6;have iT:=iq (s:=s);have hkl:=nU s (dN s) s.Steps.length;have JB:(base s).length<=128:=by unfold base;rw [za8];omega
 unfold m83;rw [S6 h,Sg s _ _ _ hn fm h.step];simp only [za];rw [EF h];simp only [za];rw [aM (by omega) (by omega)];simp only [za];rw [show chain s++eX s (dN s) s.Steps.length=base s from rfl];rw [aT (fun k:Nat=>((k:Int),(0:Int),([]:List (List UInt8)),([]:List aS),([]:List Int),([]:List Int),([[115,116,97,114,116]]:List (List UInt8)),base s++fk s (dN s) k,s.U,pm s 0 k,pm s 1 k)) s.U.toNat ?hn
  ((0:Int),([]:List (List UInt8)),([]:List aS),([]:List Int),([]:List Int),([[115,116,97,114,116]]:List (List UInt8)),base s++fk s (dN s) s.U.toNat,s.U,pm s 0 s.U.toNat,pm s 1 s.U.toNat) ?h0 ?h ?he]
 case hn=>unfold fuel;omega
 case h0=>simp [fk,pm]
 case he=>
  try dsimp only
  rw [aG (bg (by omega))]
 case h=>
  intro k hk;try dsimp only
  have dg:=lD s (dN s) k;have Zc:=wz (s:=s) (d:=0) (k:=k);have Zd:=wz (s:=s) (d:=1) (k:=k);have Tq:((base s++fk s (dN s) k).length:Int)=((base s).length:Int)+2*(k:Int):=by rw [za8,dg];omega
  rw [aK (bw (by omega)),Tq,bA (show -9223372036854775808<=fst s+(((base s).length:Int)+2*(k:Int)) by omega) (by omega)];rw [bA (show -9223372036854775808<=fst s+(((base s).length:Int)+2*(k:Int))+1 by omega) (by omega)];rw [aM (by simp [Zc];omega) (by simp [Zc];omega),aM (by simp [Zd];omega) (by simp [Zd];omega),rune (show k < 6 by omega)];simp only [za,Dv];rw [EP s _ _ _ _ _ hn fm h.step,ES s _ _ _ _ _ hn fm h.step];simp only [za,ai.gy];rw [aM (by rw [za8,dg];simp;omega) (by rw [za8,dg];simp;omega)];simp only [za];rw [tw,vF,vF,aq (by omega),zaH];rw [show fst s+(((base s).length:Int)+2*(k:Int))+1=fst s+((base s).length:Int)+2*(k:Int)+1 by omega,show fst s+(((base s).length:Int)+2*(k:Int))=fst s+((base s).length:Int)+2*(k:Int)+0 by omega];rfl
 rfl
theorem Xh {s:af} (h:Good s):m45 s=some (cw s):=by
 have Ql:=h.a1;have Yq:=h.a6;have hn:=h.n64;have hf:=fQ h.a1 h.a6;have iT:=iq (s:=s);have hkl:=nU s (dN s) s.Steps.length;have JB:(base s).length<=128:=by unfold base;rw [za8];omega
 have dg:=lD s (dN s) s.U.toNat;unfold m45 nc;rw [sj h,XD h,xI h];simp only [za];rw [EF h,Xp s _ _ (HX h) hn fm h.step,Wi s _ _ Ql Yq hn fm h.step];simp only [za];rw [aM (by omega) (by omega)];simp only [za];rw [show chain s++eX s (dN s) s.Steps.length=base s from rfl];rw [aM (by rw [dg];omega) (by rw [dg];omega)];simp only [za,Rk h];have Tq:((base s++fk s (dN s) s.U.toNat).length:Int)=((base s).length:Int)+2*s.U:=by rw [za8,dg];omega
 rw [Tq];have e1:aE .i64 (2*s.U) (([[115,116,97,114,116]]:List (List UInt8)).length:Int)=fst s:=by
  rw [bA (by simp;omega) (by simp;omega)];rfl
 rw [e1,bA (show -9223372036854775808<=fst s+(((base s).length:Int)+2*s.U) by omega) (by omega)];have e2:ct .i64 (fst s+(((base s).length:Int)+2*s.U)) (2*s.U)=fst s+((base s).length:Int):=by
  rw [dI (by omega) (by omega)];omega
 rw [e2];rw [aT (fun k:Nat=>((k:Int),(0:Int),([]:List (List UInt8)),([]:List aS),([]:List Int),([]:List Int),([[115,116,97,114,116]]:List (List UInt8)),base s++fk s (dN s) s.U.toNat,s.U,s.U,(0:Int),([]:List (List UInt8)),([]:List aS),([]:List Int),([]:List Int),pm s 0 k,pm s 1 k)) s.U.toNat ?hn
  ((0:Int),([]:List (List UInt8)),([]:List aS),([]:List Int),([]:List Int),([[115,116,97,114,116]]:List (List UInt8)),base s++fk s (dN s) s.U.toNat,s.U,s.U,(0:Int),([]:List (List UInt8)),([]:List aS),([]:List Int),([]:List Int),pm s 0 s.U.toNat,pm s 1 s.U.toNat) ?h0 ?h ?he]
 case hn=>unfold fuel;omega
 case h0=>simp [pm]
 case he=>
  try dsimp only
  rw [aG (bg (by omega))]
 case h=>
  intro k hk;try dsimp only
  have Zc:=wz (s:=s) (d:=0) (k:=k);have Zd:=wz (s:=s) (d:=1) (k:=k);have e3:dF .i64 2 (k:Int)=2*(k:Int):=gI (by omega) (by omega);rw [aK (bw (by omega)),e3,bA (show -9223372036854775808<=fst s+((base s).length:Int)+2*(k:Int) by omega) (by omega)];rw [bA (show -9223372036854775808<=fst s+((base s).length:Int)+2*(k:Int)+1 by omega) (by omega)];rw [aM (by simp [Zc];omega) (by simp [Zc];omega),aM (by simp [Zd];omega) (by simp [Zd];omega)];simp only [za];rw [vF,vF,aq (by omega),Int.add_zero]
 rfl
def noC:an:=⟨0,[],[],[],[]⟩
def err (s:af):Int:=if yO s≠0 then yO s else if 64 < s.Steps.length+cnt s s.Steps.length+2*s.U.toNat then 5 else 0
theorem Gt (s:af) (hs:Small s):m44 s=some (err s):=by
 unfold m44 err;rw [W5 s hs];simp only [za];by_cases hc:yO s=0
 ·have h:=xm hc;have Ql:=h.a1;have Yq:=h.a6;have hn:=h.n64;have Yc:=BD s s.Steps.length;rw [hc,sj h];simp only [za,bne_self_eq_false,cond_false,Rk h];rw [XQ s _ (HX h) hn];simp only [za];rw [bA (show -9223372036854775808<=(s.Steps.length:Int)+(cnt s s.Steps.length:Int) by omega) (by omega),bA (by omega) (by omega),if_neg (show ¬ (0:Int)≠0 by decide)];by_cases hb:64 < s.Steps.length+cnt s s.Steps.length+2*s.U.toNat
  ·rw [if_pos hb,aK (by simp only [decide_eq_true_eq];omega)]
  ·rw [if_neg hb,aG (by simp only [decide_eq_false_iff_not];omega)]
 ·have hb:(yO s !=0)=true:=by simpa using hc
  rw [if_pos hc,hb,cond_true]
theorem kG {s:af} (h:Good s):(cw s).aa.length=s.Steps.length+cnt s s.Steps.length+2*s.U.toNat:=by
 unfold cw;rw [za8,lF,lD]
theorem Gr (s:af):m43 s=some (if err s≠0 then (none,noC,err s) else (some ⟨s,fst s,dN s,me s (tb s) s.Steps.length⟩,cw s,0)):=by
 unfold m43 err;rw [M0 s];simp only [za];by_cases hc:yO s=0
 ·have h:=xm hc;have hl:=kG h;rw [hc,abE h];simp only [za,bne_self_eq_false,cond_false];rw [XT h];simp only [za];rw [if_neg (show ¬ (0:Int)≠0 by decide)];by_cases hb:64 < s.Steps.length+cnt s s.Steps.length+2*s.U.toNat
  ·rw [if_pos hb,aK (by simp only [decide_eq_true_eq];omega),if_pos (by decide)];rfl
  ·rw [if_neg hb,aG (by simp only [decide_eq_false_iff_not];omega),if_neg (by decide)]
 ·have hb:(yO s !=0)=true:=by simpa using hc
  rw [if_pos hc,if_pos hc,hb];rfl
end ck
end
section
namespace ck
open Go Go.Pl
theorem ads {n:Int} (h0:0<=n) (h1:n<=256):ct .i64 n 1=n - 1:=dI (by omega) (by omega)
theorem RT (x:ai) (n:Int) (h0:0<=n) (h1:n<=256) (hl:(x.au.length:Int)<=256):K5 x n=qL x n:=by
 obtain ⟨op,ix,xs⟩:=x;unfold K5 qL;dsimp only at hl ⊢;by_cases o0:op < 0
 ·simp [o0]
 by_cases o5:op≥5
 ·simp [o0,o5]
 have:op=0\/op=1\/op=2\/op=3\/op=4:=by omega
 have hs:=ads h0 h1;have e1:(n - 1 < ix)=(n<=ix):=propext ⟨fun h=>by omega,fun h=>by omega⟩;generalize xs.length=L at hl ⊢;have l0:¬ ((L:Nat):Int) < 0:=by omega
 have l9:¬ 256 < ((L:Nat):Int):=by omega
 have l8:¬ ((L:Nat):Int) > 256:=by omega
 have hL:L=0\/L=1\/2<=L:=by omega
 have hI:ix < 0\/ix=0\/ix=1\/2<=ix:=by omega
 rcases this with rfl | rfl | rfl | rfl | rfl<;>rcases hL with rfl | rfl | hL<;>simp [hs,e1,l0,l9]
 all_goals (try have q1:¬ L=0:=by omega)
 all_goals (try have q2:¬ L=1:=by omega)
 all_goals (try have q3:0 < L:=by omega)
 all_goals (try have q4:1 < L:=by omega)
 all_goals (try have q5:¬ L < 2:=by omega)
 all_goals (try have q6:¬ (L:Int) < 2:=by omega)
 all_goals (try have q7:¬ (L:Int) < 1:=by omega)
 all_goals (try have q8:((L:Int) !=0)=true:=bne_iff_ne.2 (by omega))
 all_goals (try have q9:((L:Int) !=1)=true:=bne_iff_ne.2 (by omega))
 all_goals (try have qa:1 < (L:Int):=by omega)
 all_goals (try simp [qa,q8,q9,q1,q2,q3,q4,q5,q6,q7,l0,l9])
 all_goals (try (rcases hI with h | rfl | rfl | h<;>first | rfl | (have p1:¬ ix < 0:=by omega;have p2:1 < ix:=by omega;have p3:0 < ix:=by omega;have p4:1<=ix:=by omega;simp [h,p1,p2,p3,p4]) | simp [h] | simp))
end ck
end
section
namespace ck
open Go Go.Pl
mutual
def ud:ai->Nat
 | ⟨_,_,l⟩=>1+ef l
def ef:List ai->Nat
 | []=>0
 | x::l=>ud x+ef l
end
theorem eta (x:ai):(⟨x.Op,x.Index,x.au⟩:ai)=x:=by cases x;rfl
theorem jM (x:ai):ud x=1+ef x.au:=by cases x;rw [ud]
theorem BW (x:ai):1<=ud x:=by rw [jM];omega
theorem tJ:∀ (l:List ai) (i:Nat) (h:i < l.length),ef (l.take (i+1))=ef (l.take i)+ud l[i]
 | x::l,0,h=>by simp [ef]
 | x::l,i+1,h=>by
  have:=tJ l i (by simpa using h);simp only [zbZ,ef,zbQ];omega
theorem BX:∀ (l:List ai) (i:Nat),ef (l.take i)<=ef l
 | [],i=>by simp
 | x::l,0=>by simp [ef]
 | x::l,i+1=>by
  have:=BX l i;simp only [zbZ,ef];omega
theorem rY:∀ (l:List ai) (i:Nat),i<=l.length->i<=ef (l.take i)
 | l,0,_=>by simp
 | x::l,i+1,h=>by
  have:=rY l i (by simpa using h);have:=BW x;simp only [zbZ,ef];omega
theorem count_eq:∀ (k:Nat) (x:ai) (m:Nat),m<=256->m < k->Lv k x (m:Int)=some ((min (ud x) (m+1):Nat):Int)
 | 0,x,m,_,h=>by omega
 | k+1,x,m,hm,hk=>by
  show VG (Lv k) x m=_;unfold VG;obtain ⟨r,h1,h2⟩:=Kf (body:=fun s1:Int×Int=>(((bif (decide (s1.2 < (x.au.length:Int))) then some (decide (s1.1<=(m:Int))) else some false):Option (Bool)).bind fun w3=>(bif w3 then (idx x.au s1.2).bind fun v4=>(Lv k (⟨v4.Op,v4.Index,v4.au⟩:ai) (ct .i64 m s1.1)).bind fun v5=>some (.inl ((aE .i64 s1.1 v5),(aE .i64 s1.2 1))) else some (.inr s1.1)):Option ((Int×Int)⊕(Int)))) (t0:=1) (m+1) (show m+1 < 2 ^ 64 by omega)
   (fun i t=>i<=x.au.length/\t=((min (1+ef (x.au.take i)) (m+1):Nat):Int)) (fun r=>r=((min (ud x) (m+1):Nat):Int)) ⟨zaO _,by simp [ef]⟩ (by
   rintro i t hi ⟨h1,h2⟩;subst h2;dsimp only;have hz:=jM x;by_cases hl:i < x.au.length
   ·rw [bw (show ((i:Nat):Int) < (x.au.length:Int) by omega),cond_true];dsimp only [Option.bind];have hT:=tJ x.au i hl;have hP:=BW x.au[i];have hB:=rY x.au i h1;by_cases hc:1+ef (x.au.take i)<=m
    ·have e1:min (1+ef (x.au.take i)) (m+1)=1+ef (x.au.take i):=by omega
     rw [e1];refine .inl ⟨((min (1+ef (x.au.take (i+1))) (m+1):Nat):Int),by omega,?_,by omega,rfl⟩;rw [Q0 (show ((1+ef (x.au.take i):Nat):Int)<=(m:Int) by omega),cond_true,ax hl];dsimp only;rw [dI (by omega) (by omega),show (m:Int) - ((1+ef (x.au.take i):Nat):Int)=((m - (1+ef (x.au.take i)):Nat):Int) by omega];rw [eta,count_eq k x.au[i] (m - (1+ef (x.au.take i))) (by omega) (by omega)];dsimp only;rw [bA (by omega) (by omega),aq (by omega),hT];congr 3;omega
    ·have e1:min (1+ef (x.au.take i)) (m+1)=m+1:=by omega
     rw [e1];refine .inr ⟨((m+1:Nat):Int),?_,?_⟩
     ·rw [ZG (show ¬ ((m+1:Nat):Int)<=(m:Int) by omega)];rfl
     ·have:=BX x.au i;congr 1;omega
   ·have e:i=x.au.length:=by omega
    subst e;rw [bg (by omega),cond_false];dsimp only [Option.bind];refine .inr ⟨_,rfl,?_⟩;rw [zbr,hz])
  rw [h1,h2];rfl
end ck
end
section
namespace ck
open Go Go.Pl
mutual
def gu:ai->Nat
 | ⟨_,_,l⟩=>1+lA l
def lA:List ai->Nat
 | []=>0
 | x::l=>max (gu x) (lA l)
end
theorem fO (x:ai):gu x=1+lA x.au:=by cases x;rw [gu]
theorem iO (x:ai):1<=gu x:=by rw [fO];omega
theorem fh {d:Nat}:∀ (l:List ai),lA l<=d↔∀ (i:Nat) (h:i < l.length),gu l[i]<=d
 | []=>⟨fun _ i h=>by simp at h,fun _=>by simp [lA]⟩
 | x::l=>by
  rw [lA,Nat.max_le,fh l];constructor
  ·rintro ⟨h1,h2⟩ i hi
   cases i with
   | zero=>exact h1
   | succ i=>exact h2 i (by simpa using hi)
  ·intro h;exact ⟨h 0 (by simp),fun i hi=>h (i+1) (by simpa using hi)⟩
theorem oq:∀ (l:List ai) (i:Nat) (h:i < l.length),ud l[i]<=ef l
 | x::l,0,h=>by simp [ef]
 | x::l,i+1,h=>by
  have:=oq l i (by simpa using h);simp only [ef,zbQ];omega
theorem wC (l:List ai):l.length<=ef l:=by have:=rY l l.length (za7 _);rwa [zbr] at this
theorem II:∀ (k:Nat) (x:ai) (d:Nat),d<=16->ud x<=256->d < k->QZ k x (d:Int)=some (decide (gu x<=d))
 | 0,x,d,_,_,h=>by omega
 | k+1,x,d,hd,hs,hk=>by
  show Vu (QZ k) x d=_;unfold Vu;have hp:=iO x;have hz:=jM x;have hl:=wC x.au;by_cases h0:d=0
  ·subst h0;rw [bw (by omega),cond_true];congr 1;exact (decide_eq_false (by omega)).symm
  rw [bg (by omega),cond_false];by_cases h1:d=1
  ·subst h1;rw [show (((1:Nat):Int)==1)=true from rfl,cond_true];congr 1;rw [Bool.eq_iff_iff,beq_iff_eq,decide_eq_true_eq,fO];constructor
   ·intro h;have:x.au=[]:=zbA (by omega);rw [this];simp [lA]
   ·intro h;have:lA x.au<=0:=by omega
    cases hA:x.au with
    | nil=>rfl
    | cons y l=>
     rw [hA,lA] at this;have:=iO y;omega
  rw [show (((d:Nat):Int)==1)=false by simp;omega,cond_false];have e1:ct .i64 (d:Int) 1=((d - 1:Nat):Int):=by rw [dI (by omega) (by omega)];omega
  simp only [e1];rw [dY x.au (fun y=>if gu y<=d - 1 then none else some false) (show x.au.length < 2 ^ 64 by omega) () rfl (fun i hi=>by
   have hg:=oq x.au i hi;rw [bw (show ((i:Nat):Int) < (x.au.length:Int) by omega),cond_true,ax hi];dsimp only [Option.bind];rw [eta,II k x.au[i] (d - 1) (by omega) (by omega) (by omega)];dsimp only;by_cases h:gu x.au[i]<=d - 1
   ·rw [decide_eq_true h,if_pos h,zb1,cond_false,aq (by omega)]
   ·rw [decide_eq_false h,if_neg h,Bool.not_false,cond_true]) (by
   rw [bg (by omega),cond_false])]
  cases hf:x.au.findSome? (fun y=>if gu y<=d - 1 then none else some false) with
  | none=>
   rw [zbt] at hf;have:lA x.au<=d - 1:=(fh _).2 fun i hi=>by
    have:=hf x.au[i] (zax hi);by_cases h:gu x.au[i]<=d - 1
    ·exact h
    ·rw [if_neg h] at this;cases this
   show some true=_;congr 1;exact (decide_eq_true (by rw [fO];omega)).symm
  | some b=>
   obtain ⟨y,hy,hb⟩:=zae hf;split at hb
   ·cases hb
   rename_i hn;injection hb with hb;subst hb
   show some false=_;congr 1;refine (decide_eq_false fun h=>hn ?_).symm;obtain ⟨i,hi,rfl⟩:=zaE hy;exact (fh (d:=d - 1) _).1 (by rw [fO] at h;omega) i hi
theorem rZ (x:ai):m63 x=some (decide (ud x<=256/\gu x<=16)):=by
 unfold m63 ZE ZF;rw [eta,show (256:Int)=((256:Nat):Int) from rfl,count_eq fuel x 256 (by omega) (show 256 < 2 ^ 64 by omega)];dsimp only [Option.bind];by_cases h:ud x<=256
 ·rw [Q0 (by omega),cond_true,show (16:Int)=((16:Nat):Int) from rfl,II fuel x 16 (by omega) h (show 16 < 2 ^ 64 by omega)];simp [h]
 ·rw [ZG (by omega),cond_false];simp [h]
end ck
end
