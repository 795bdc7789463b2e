/- Parts of my machine and its laws, joined: P32b P32a P32j P32l P32m P32n P32o P32p. No condition. -/
import Derived.Test.YtafgdbaekppjcaaGreatDoorG33g
set_option linter.unusedSectionVars false
set_option linter.unusedVariables false
set_option linter.unusedSimpArgs false
section
namespace cK
open Go Go.Pl
def JQ (p:List UInt8) (k:Nat):Bool:=decide (B7 p k=(EK k).bind fun v=>mX p v)&&(B7 p k).isSome
set_option maxRecDepth 100000
theorem PL:((List.range 100).all fun k=>JQ [103] k&&JQ [115] k&&JQ [119] k)=true:=by kernel_rfl
theorem A0 {p:List UInt8} (hp:p=[103]\/p=[115]\/p=[119]) {k:Nat} (hk:k < 100):∃ t,B7 p k=some t/\(EK k).bind (fun v=>mX p v)=some t:=by
 have h:=PL;rw [zai] at h;have h:=h k (zac.mpr hk);rw [za0,za0] at h;have:JQ p k=true:=by
  rcases hp with rfl | rfl | rfl
  ·exact h.1.1
  ·exact h.1.2
  ·exact h.2
 unfold JQ at this;rw [za0,decide_eq_true_eq] at this;obtain ⟨t,ht⟩:=Option.isSome_iff_exists.mp this.2;exact ⟨t,ht,by rw [<-this.1];exact ht⟩
end cK
end
section
namespace cK
open Go Go.Pl
theorem aj.dP (e:aj):(⟨e.Op,e.Index,e.aq⟩:aj)=e:=by cases e;rfl
end cK
end
section
namespace cK
open Go Go.Pl
def nameOf (p:List UInt8) (k:Nat):List UInt8:=(B7 p k).getD []
def Wf:aj:=⟨0,0,[]⟩
def nE (s:aa) (M:List Int) (k:Nat):List aK:=match s.Steps[k]?,M[k]? with
 | some x,some m=>if x.dz=0 then [] else [⟨nameOf [119] k,2,⟨3,0,cw m::x.af.map qw⟩,Wf,x.dz,false⟩]
 | _,_=>[]
def jy (s:aa) (M:List Int) (k:Nat):List aK:=(List.range k).flatMap (nE s M)
theorem oJ {s:aa} {M:List Int} {k:Nat}:jy s M (k+1)=jy s M k++nE s M k:=by
 unfold jy;rw [zb7,List.flatMap_append];simp
theorem IU (s:aa) (M:List Int) (k:Nat):(nE s M k).length<=1:=by
 unfold nE;split
 ·split<;>simp
 ·simp
theorem rR (s:aa) (M:List Int):∀ k,(jy s M k).length<=k
 | 0=>by simp [jy]
 | k+1=>by
  rw [oJ,za9];have:=rR s M k;have:=IU s M k;omega
theorem adB (x y:aj) (l:List aj):uL 3 (x::y::l)=some ⟨3,0,x::y::l⟩:=by
 unfold uL;rw [au (by simp;omega)]
theorem U7 (s:aa) (n:Int) (M:List Int) (hn:0<=n) (hs:s.Steps.length<=64) (hM:M.length=s.Steps.length) (h:∀ k (h:k < s.Steps.length),gG s.Steps[k]):
 WI ⟨s,dW s n s.Steps.length⟩ M=some (jy s M s.Steps.length):=by
 unfold WI;have hlen:(dW s n s.Steps.length).length=s.Steps.length:=by simp [dW]
 rw [aN (fun k:Nat=>((k:Int),jy s M k)) s.Steps.length ?hn (jy s M s.Steps.length) ?h0 ?h ?he]
 case hn=>unfold fuel;omega
 case h0=>simp [jy]
 case he=>
  try dsimp only
  rw [au (bn (by rw [hlen];omega))]
 case h=>
  intro k hk;try dsimp only
  have hc:=rR s M k;have ho:=h k hk;have hle:=ho.le;rw [ay (bq (by rw [hlen];omega)),ot hk];simp only [za,jw];rw [fB hk hn,oJ,an (by omega)];have e:nE s M k=if s.Steps[k].dz=0 then [] else [⟨nameOf [119] k,2,⟨3,0,cw (M[k]'(by omega))::s.Steps[k].af.map qw⟩,Wf,s.Steps[k].dz,false⟩]:=by
   unfold nE;rw [za2 hk,za2 (show k < M.length by omega)]
  rw [e];by_cases hw:s.Steps[k].dz=0
  ·rw [au (by simp [hw]),if_pos hw];simp
  ·rw [ay (by simpa using hw),if_neg hw,aF (show k < M.length by omega),aF hk];simp only [za];rw [Hp _ ho];simp only [za,aj.dP];obtain ⟨t,ht,_⟩:=A0 (p:=[119]) (.inr (.inr rfl)) (show k < 100 by omega);rw [aO (by simp;omega) (by simp;omega),ht];have hnm:nameOf [119] k=t:=by unfold nameOf;rw [ht];rfl
   obtain ⟨y,l,W1⟩:∃ y l,s.Steps[k].af.map qw=y::l:=by
    cases hq:s.Steps[k].af with
    | nil=>have:=ho.pos;rw [hq] at this;simp at this
    | cons a l=>exact ⟨_,_,rfl⟩
   simp only [za,zbq];rw [W1,adB,hnm];simp only [za,aj.dP];rw [aO (by simp;omega) (by simp;omega)];rfl
 rfl
end cK
end
section
namespace cK
open Go Go.Pl
structure Good (s:aa):Prop where
 a1:1<=s.U
 a6:s.U<=6
 n0:0 < s.Steps.length
 n64:s.Steps.length<=64
 step:∀ i (h:i < s.Steps.length),gG s.Steps[i]
def sev (a:Int):List aj->aj
 | [x]=>x
 | l=>⟨a,0,l⟩
theorem xA (a:Int) (l:List aj):uL a l=some (sev a l):=by
 unfold uL;match l with
 | []=>rfl
 | [x]=>show some (⟨x.Op,x.Index,x.aq⟩:aj)=_;rw [aj.dP];rfl
 | x::y::l=>rw [au (by simp;omega)];rfl
theorem M0 {s:aa} (h:Good s) {n:Int} {k:Nat} (hk:k < s.Steps.length):(dA s n k).length<=6:=by
 unfold dA;rw [za2 hk];dsimp only;split
 ·simpa using (h.step k hk).le
 ·simp
theorem OV {s:aa} (h:Good s):cE .i64 2 s.U=2*s.U:=by
 have:=h.a1;have:=h.a6;exact jf (by omega) (by omega)
theorem Hq {k n:Nat} (hk:k < n) (hn:n<=64):mV (cB .i64 (aI .i64 (k:Int) (n:Int)) 1) (n:Int)=some (((k+n - 1) % n:Nat):Int):=by
 rw [bh (by omega) (by omega),fW (by omega) (by omega),show (k:Int)+(n:Int) - 1=((k+n - 1:Nat):Int) by omega];unfold mV;rw [if_neg (by omega),Int.ofNat_tmod]
theorem Hr {k n:Nat} (hk:k < n) (hn:n<=64):mV (aI .i64 (k:Int) 1) (n:Int)=some (((k+1) % n:Nat):Int):=by
 rw [an (by omega)];unfold mV;rw [if_neg (by omega),Int.ofNat_tmod]
end cK
end
section
namespace cK
open Go Go.Pl
def hit (a:Int) (o:Bool) (y:bQ):Bool:=y.ai==a&&y.Out==o
theorem IV (l:List bQ) (p:bQ->Bool):(match first l.length (fun k=>match l[k]? with | some b=>bif p b then some (k:Int) else none | none=>none) with | none=>decide ((-1:Int)≥0) | some r=>decide (r≥0))=l.any p:=by
 cases hf:first l.length (fun k=>match l[k]? with | some b=>bif p b then some (k:Int) else none | none=>none) with
 | none=>
  rw [bu] at hf;have:(l.any p)=false:=by
   rw [zbi];intro b hb;obtain ⟨k,hk,rfl⟩:=zaA hb;have:=hf k hk;rw [za2 hk] at this;dsimp only at this;intro hc;rw [hc] at this;simp at this
  rw [this];rfl
 | some r=>
  unfold first at hf
  obtain ⟨k,hk,hr⟩:=zab hf;have hk':k < l.length:=by simpa using hk
  rw [za2 hk'] at hr;dsimp only at hr
  cases hb:p l[k] with
  | false=>rw [hb] at hr;simp at hr
  | true=>
   rw [hb] at hr;simp only [cond_true,za1] at hr;have:l.any p=true:=by
    rw [zbb];exact ⟨l[k],zaG hk',hb⟩
   rw [this];subst hr;simp
def ud (s:aa) (M:List Int) (a:Int) (o:Bool):Nat->List aj
 | 0=>[]
 | k+1=>ud s M a o k++(match s.Steps[k]?,M[k]? with | some x,some m=>if x.af.any (hit a o) then [cw m] else [] | _,_=>[])
theorem Dn {s:aa} {M:List Int} {a:Int} {o:Bool} {k:Nat} (hk:k < s.Steps.length) (hm:k < M.length):ud s M a o (k+1)=ud s M a o k++if s.Steps[k].af.any (hit a o) then [cw M[k]] else []:=by
 rw [ud,za2 hk,za2 hm]
theorem ry (s:aa) (M:List Int) (a:Int) (o:Bool):∀ k,(ud s M a o k).length<=k
 | 0=>za6 _
 | k+1=>by
  have:=ry s M a o k;rw [ud,za9];split
  ·split<;>simp<;>omega
  ·simp;omega
def Cn (a:Nat) (o:Bool):List UInt8:=[UInt8.ofNat (97+a),if o then 112 else 109]
def di (s:aa) (M:List Int) (a:Nat) (o:Bool):aK:=⟨Cn a o,0,sev 4 (ud s M a o s.Steps.length),Wf,0,false⟩
def g8 (s:aa) (M:List Int) (k:Nat):List aK:=(List.range k).flatMap fun a=>[di s M a true,di s M a false]
theorem tK {s:aa} {M:List Int} {k:Nat}:g8 s M (k+1)=g8 s M k++[di s M k true,di s M k false]:=by
 unfold g8;rw [zb7,List.flatMap_append];simp
theorem lF (s:aa) (M:List Int):∀ k,(g8 s M k).length=2*k
 | 0=>by simp [g8]
 | k+1=>by rw [tK,za9,lF s M k];simp;omega
theorem gG.lt {x:bX} (h:gG x):∀ (d j:Nat) (hj:j+1+d < x.af.length),x.af[j].ai < x.af[j+1+d].ai
 | 0,j,hj=>h.inc j hj
 | d+1,j,hj=>Int.lt_trans (h.lt d j (by omega)) (h.inc (j+1+d) hj)
theorem Nn {x:bX} (h:gG x) {a:Int} {o:Bool} {i:Nat} (hi:i < x.af.length) (hh:hit a o x.af[i]=true):(x.af.take i).any (hit a o)=false:=by
 rw [zbi];intro y hy hc;obtain ⟨j,hj,rfl⟩:=zaA hy;have hj':j < i:=by rw [zbu] at hj;omega
 rw [zao] at hc;have:=h.lt (i - j - 1) j (by omega);simp only [show j+1+(i - j - 1)=i by omega] at this;unfold hit at hh hc;simp only [za0,beq_iff_eq] at hh hc;omega
theorem Ht {a:Nat} (h:a < 6):oS ([97,98,99,100,101,102]:List UInt8) (some (a:Int)) (some ((a+1:Nat):Int))=some [UInt8.ofNat (97+a)]:=by
 have:a=0\/a=1\/a=2\/a=3\/a=4\/a=5:=by omega
 rcases this with rfl | rfl | rfl | rfl | rfl | rfl<;>rfl
theorem xD (a:Nat) (n:UInt8):mX [UInt8.ofNat (97+a)] [n]=some [UInt8.ofNat (97+a),n]:=by
 unfold mX;rw [if_pos (by simp)];rfl
theorem Vh (s:aa) (M T:List Int) (h0:1<=s.U) (h1:s.U<=6) (hs:s.Steps.length<=64) (hM:M.length=s.Steps.length) (h:∀ k (h:k < s.Steps.length),gG s.Steps[k]):
 WJ ⟨s,T⟩ M=some (g8 s M s.U.toNat):=by
 unfold WJ;rw [aN (fun k:Nat=>((k:Int),g8 s M k)) s.U.toNat ?hn (g8 s M s.U.toNat) ?h0 ?h ?he]
 case hn=>unfold fuel;omega
 case h0=>simp [g8]
 case he=>
  try dsimp only
  rw [au (bn (by omega))]
 case h=>
  intro a ha;try dsimp only
  have dm:=lF s M a;rw [ay (bq (by omega)),tK,an (by omega)];rw [aN (fun k:Nat=>((k:Int),g8 s M a++(([true,false]:List Bool).take k).map (di s M a))) 2 ?hn (g8 s M a++[di s M a true,di s M a false]) ?h0 ?h ?he]
  case hn=>unfold fuel;omega
  case h0=>simp
  case he=>rfl
  case h=>
   intro k hk;try dsimp only
   have hk':k < ([true,false]:List Bool).length:=hk;rw [ay (bq (by simp;omega)),aF hk'];simp only [za];have et:(([true,false]:List Bool).take (k+1)).map (di s M a)=(([true,false]:List Bool).take k).map (di s M a)++[di s M a (([true,false]:List Bool)[k])]:=by
    rw [zaV,za2 hk',zal];rfl
   rw [et,<-zaz];have hle:(g8 s M a++(([true,false]:List Bool).take k).map (di s M a)).length<=12+2:=by
    rw [za9,dm,zah,zbu];simp;omega
   generalize g8 s M a++(([true,false]:List Bool).take k).map (di s M a)=acc at hle ⊢;generalize ([true,false]:List Bool)[k]=o;rw [aN (fun j:Nat=>((j:Int),acc,ud s M a o j)) s.Steps.length ?hn (acc,ud s M a o s.Steps.length) ?h0 ?h ?he]
   case hn=>unfold fuel;omega
   case h0=>rfl
   case he=>
    try dsimp only
    rw [au (bn (by omega))]
   case h=>
    intro j hj;try dsimp only
    have hl:=ry s M a o j;have hx:=h j hj;have hxl:=hx.le;rw [ay (bq (by omega)),Dn hj (by omega),an (by omega)];rw [aN (fun i:Nat=>((i:Int),acc,ud s M a o j++if (s.Steps[j].af.take i).any (hit a o) then [cw (M[j]'(by omega))] else [])) s.Steps[j].af.length ?hn (acc,ud s M a o j++if s.Steps[j].af.any (hit a o) then [cw (M[j]'(by omega))] else []) ?h0 ?h ?he]
    case hn=>unfold fuel;omega
    case h0=>simp
    case he=>
     try dsimp only
     rw [aF hj];simp only [za];rw [au (bn (by omega)),zbC]
    case h=>
     intro i hi;try dsimp only
     rw [aF hj];simp only [za];rw [ay (bq (by omega)),aF hi];simp only [za,jw,aj.dP];have eh:((s.Steps[j].af[i].ai==(a:Int)&&(s.Steps[j].af[i].Out==o&&true)) !=false)=hit a o s.Steps[j].af[i]:=by
      unfold hit;simp
     have ea:(s.Steps[j].af.take (i+1)).any (hit a o)=((s.Steps[j].af.take i).any (hit a o)||hit a o s.Steps[j].af[i]):=by
      rw [zaV,za2 hi,List.any_append];simp
     rw [eh,ea,an (by omega)]
     cases hb:hit a o s.Steps[j].af[i] with
     | true=>
      rw [Nn hx hi hb];simp only [cond_true];rw [aF (show j < M.length by omega)];simp only [za];rw [if_neg (by simp),zbo,aO (by simp;omega) (by simp;omega)];simp
     | false=>simp
    rfl
   simp only [za];rw [Ht (show a < 6 by omega)];simp only [za,xA,xD]
   cases o with
   | true=>
    simp only [cond_true,za,aj.dP];rw [aO (by simp;omega) (by simp;omega),an (by omega)];rfl
   | false=>
    simp only [cond_false,za,aj.dP];rw [aO (by simp;omega) (by simp;omega),an (by omega)];rfl
  rfl
 rfl
end cK
end
section
namespace cK
open Go Go.Pl
structure cU (s:aa):Prop where
 a1:1<=s.U
 a6:s.U<=6
 n0:0 < s.Steps.length
 n64:s.Steps.length<=64
 step:∀ i (h:i < s.Steps.length),sH s s.Steps[i]
 mv:∀ a,a < s.U.toNat->(s.Steps.any fun x=>j7 x (a:Int))=true
theorem oA {s:aa} (h:uZ s=0):cU s:=by
 unfold uZ at h;split at h
 ·omega
 split at h
 ·omega
 split at h
 ·omega
 rename_i h1 h2 h3;split at h
 ·rename_i r hr;exfalso;subst h;unfold first at hr
  obtain ⟨k,_,hk⟩:=zab hr;unfold oR at hk;split at hk
  ·simp at hk
  ·split at hk
   ·rename_i h;injection hk with hk;exact h hk
   ·simp at hk
 ·rename_i hf;rw [bu] at hf;split at h
  ·omega
  split at h
  ·rename_i hm;refine ⟨by omega,by omega,by omega,by omega,fun i hi=>(sY hi (hf i hi)).1,fun a ha=>?_⟩;rw [zai] at hm;have:=hm a (zac.2 ha);rw [CG s a _ (za6 _),zad (za6 _)] at this;exact this
  ·omega
def mask (l:List bQ):Nat:=l.foldl (fun m y=>m||| 2 ^ y.ai.toNat) 0
theorem Iy {l:List bQ} {k:Nat} (h:k < l.length):mask (l.take (k+1))=mask (l.take k)||| 2 ^ l[k].ai.toNat:=by
 unfold mask;rw [zaV,za2 h,List.foldl_append];rfl
theorem Iz (l:List bQ) (m:Nat) (a:Nat):(l.foldl (fun m y=>m||| 2 ^ y.ai.toNat) m).testBit a=(m.testBit a||l.any fun y=>y.ai.toNat==a):=by
 induction l generalizing m with
 | nil=>simp
 | cons y l ih=>
  rw [zc0,ih,zbZ,Nat.testBit_or,Nat.testBit_two_pow]
  cases m.testBit a<;>by_cases h:y.ai.toNat=a<;>simp [h]
theorem nN (l:List bQ) (a:Nat):(mask l).testBit a=l.any fun y=>y.ai.toNat==a:=by
 unfold mask;rw [Iz];simp
theorem GK (l:List bQ) (h:∀ k (h:k < l.length),0<=l[k].ai/\l[k].ai < 6):mask l < 64:=by
 refine Nat.lt_pow_two_of_testBit (n:=6) _ fun a ha=>?_
 rw [nN,zbi];intro y hy;obtain ⟨k,hk,rfl⟩:=zaA hy;have:=h k hk;simp;omega
theorem LW {a:Int} (h0:0<=a) (h1:a < 6):idx ([1,2,4,8,16,32]:List Int) a=some ((2 ^ a.toNat:Nat):Int):=by
 have:a=0\/a=1\/a=2\/a=3\/a=4\/a=5:=by omega
 rcases this with rfl | rfl | rfl | rfl | rfl | rfl<;>rfl
theorem Pa {x:bX} (h:gG x):Oa x=some (mask x.af:Int):=by
 have hle:=h.le;unfold Oa;rw [aN (fun k:Nat=>((mask (x.af.take k):Int),(k:Int))) x.af.length ?hn (mask x.af:Int) ?h0 ?h ?he]
 case hn=>unfold fuel;omega
 case h0=>rfl
 case he=>
  try dsimp only
  rw [au (bn (by omega)),zad (za6 _)]
 case h=>
  intro k hk;try dsimp only
  obtain ⟨h1,h2⟩:=h.act k hk;rw [ay (bq (by omega)),aF hk];simp only [za];rw [LW h1 h2];simp only [za];have hm:mask (x.af.take k) < 64:=GK _ fun i hi=>by
   simp only [zao];exact h.act i (by simp at hi;omega)
  have hp:2 ^ x.af[k].ai.toNat < 18446744073709551616:=Nat.pow_lt_pow_right (a:=2) (by omega) (show x.af[k].ai.toNat < 64 by omega);rw [GL (by omega) hp,an (by omega),Iy hk]
 rfl
def share (s:aa) (x y:bX):Bool:=(List.range s.U.toNat).any fun a=>j7 x (a:Int)&&j7 y (a:Int)
theorem rC {x:bX} (h:gG x) (a:Nat):j7 x (a:Int)=(mask x.af).testBit a:=by
 rw [nN];unfold j7;rw [Bool.eq_iff_iff,zbb,zbb];constructor
 ·rintro ⟨y,hy,e⟩;refine ⟨y,hy,?_⟩;simp at e ⊢;omega
 ·rintro ⟨y,hy,e⟩;refine ⟨y,hy,?_⟩;obtain ⟨k,hk,rfl⟩:=zaA hy;have:=h.act k hk;simp at e ⊢;omega
theorem Pb {s:aa} {x:bX} (h:sH s x) {a:Nat} (ha:j7 x (a:Int)=true):a < s.U.toNat:=by
 unfold j7 at ha;rw [zbb] at ha;obtain ⟨y,hy,e⟩:=ha;obtain ⟨k,hk,rfl⟩:=zaA hy;have:=h.N0 k hk;simp at e;omega
theorem iD {a b:Nat}:a&&& b=0↔∀ i,¬(a.testBit i=true/\b.testBit i=true):=by
 constructor
 ·intro h i hi;have:=congrArg (fun n=>n.testBit i) h;simp [Nat.testBit_and,hi.1,hi.2] at this
 ·intro h;refine Nat.eq_of_testBit_eq fun i=>?_
  rw [Nat.testBit_and,Nat.zero_testBit];have:=h i
  cases ha:a.testBit i<;>cases hb:b.testBit i<;>simp_all
theorem Fv {s:aa} {x y:bX} (hx:sH s x) (hy:sH s y):share s x y= !decide (mask x.af&&& mask y.af=0):=by
 rw [Bool.eq_iff_iff];unfold share;rw [zbb];simp only [zaW,decide_eq_false_iff_not,iD,Classical.not_forall,Classical.not_not];constructor
 ·rintro ⟨a,_,h⟩;rw [za0] at h;exact ⟨a,by rw [<-rC hx.ok];exact h.1,by rw [<-rC hy.ok];exact h.2⟩
 ·rintro ⟨a,h1,h2⟩;rw [<-rC hx.ok] at h1;rw [<-rC hy.ok] at h2;exact ⟨a,zac.2 (Pb hx h1),by rw [h1,h2];rfl⟩
theorem Pc {s:aa} (h:cU s) {i j:Nat} (hi:i < s.Steps.length) (hj:j < s.Steps.length):JF s i j=some (share s s.Steps[i] s.Steps[j]):=by
 have hA:=h.a6;have l1:=(h.step i hi).ok.le;have l2:=(h.step j hj).ok.le;unfold JF;rw [dO (List.range s.U.toNat) (fun a=>bif j7 s.Steps[i] (a:Int)&&j7 s.Steps[j] (a:Int) then some true else none) ?hn () ?h0 ?h ?he]
 case hn=>unfold fuel;simp;omega
 case h0=>rfl
 case he=>
  try dsimp only
  rw [au (bn (by simp;omega))]
 case h=>
  intro k hk;have hk':k < s.U.toNat:=by simpa using hk
  try dsimp only
  rw [ay (bq (by omega)),aF hi];simp only [za,zaX];rw [Be _ _ (by omega),an (by omega)];simp only [za,EW];rw [aF hj];simp only [za];rw [Be _ _ (by omega)];simp only [za,EW]
  cases j7 s.Steps[i] (k:Int)<;>cases j7 s.Steps[j] (k:Int)<;>rfl
 rw [dQ];unfold share
 cases (List.range s.U.toNat).any fun a=>j7 s.Steps[i] (a:Int)&&j7 s.Steps[j] (a:Int)<;>rfl
theorem gM {α:Type} {l:List α} {i:Nat} {d:α} (h:i < l.length):l.getD i d=l[i]:=by simp [List.getD,h]
def N1 (s:aa) (i:Nat):bX:=s.Steps.getD (i % s.Steps.length) ⟨[],0⟩
def mk (s:aa) (i:Nat):Nat:=mask (N1 s i).af
def alone (s:aa) (f k:Nat):Bool:=(List.range k).all fun i=>(List.range i).all fun j=>decide (mk s (f+i)&&& mk s (f+j)=0)
def acc (s:aa) (f:Nat):Nat->Nat
 | 0=>0
 | k+1=>acc s f k||| mk s (f+k)
theorem KX {s:aa} (h:cU s) (i:Nat):∃ hi:i % s.Steps.length < s.Steps.length,N1 s i=s.Steps[i % s.Steps.length]:=by
 have:=h.n0;have hi:=zc1 i this;exact ⟨hi,by unfold N1;rw [gM hi]⟩
theorem EY {s:aa} (h:cU s) (i:Nat):sH s (N1 s i):=by
 obtain ⟨hi,e⟩:=KX h i;rw [e];exact h.step _ hi
theorem KY {s:aa} {i:Nat} (hi:i < s.Steps.length):N1 s i=s.Steps[i]:=by
 unfold N1;have:i % s.Steps.length < s.Steps.length:=by rw [zbB hi];exact hi
 rw [gM this];congr 1;exact zbB hi
theorem Rw {s:aa} (h:cU s) (i:Nat):mk s i < 64:=GK _ (EY h i).ok.act
theorem KZ {s:aa} (h:cU s) (f:Nat):∀ k,acc s f k < 64
 | 0=>by simp [acc]
 | k+1=>Nat.or_lt_two_pow (n:=6) (KZ h f k) (Rw h _)
theorem lJ {s:aa} {f k:Nat}:alone s f k=true↔∀ i,i < k->∀ j,j < i->mk s (f+i)&&& mk s (f+j)=0:=by
 simp [alone,zai]
theorem xQ {s:aa} {f k m:Nat} (h:alone s f k=true) (hm:m<=k):alone s f m=true:=by
 rw [lJ] at h ⊢;intro i hi j hj;exact h i (by omega) j hj
theorem GM (s:aa) (f a:Nat):∀ k,(acc s f k).testBit a=(List.range k).any fun i=>(mk s (f+i)).testBit a
 | 0=>by simp [acc]
 | k+1=>by rw [acc,Nat.testBit_or,GM s f a k,zb7,List.any_append];simp
theorem uk {s:aa} {f k a:Nat}:(acc s f k).testBit a=true↔∃ i,i < k/\(mk s (f+i)).testBit a=true:=by
 rw [GM,zbb];constructor
 ·rintro ⟨i,hi,h⟩;exact ⟨i,zac.1 hi,h⟩
 ·rintro ⟨i,hi,h⟩;exact ⟨i,zac.2 hi,h⟩
theorem CJ {s:aa} {f k x:Nat}:acc s f k&&& x=0↔∀ i,i < k->mk s (f+i)&&& x=0:=by
 constructor
 ·intro h i hi;rw [iD] at h ⊢;intro a ha;exact h a ⟨uk.2 ⟨i,hi,ha.1⟩,ha.2⟩
 ·intro h;rw [iD];intro a ha;obtain ⟨i,hi,hb⟩:=uk.1 ha.1;exact (iD.1 (h i hi)) a ⟨hb,ha.2⟩
theorem qb {s:aa} {f k:Nat}:alone s f (k+1)=true↔alone s f k=true/\acc s f k&&& mk s (f+k)=0:=by
 rw [CJ];constructor
 ·intro h;refine ⟨xQ h (by omega),fun i hi=>?_⟩;rw [Nat.and_comm];exact lJ.1 h k (by omega) i hi
 ·rintro ⟨h1,h2⟩;rw [lJ] at h1 ⊢;intro i hi j hj;by_cases e:i=k
  ·subst e;rw [Nat.and_comm];exact h2 j hj
  ·exact h1 i (by omega) j hj
theorem LX {x n:Nat} (h:0 < n):mV (x:Int) (n:Int)=some ((x % n:Nat):Int):=by
 unfold mV;rw [if_neg (by omega)];rfl
def ue (s:aa) (f:Nat) (k:Nat):Option (Int×Bool):=if acc s f k&&& mk s (f+k)=0 then none else some ((acc s f k:Int),false)
theorem Fw {s:aa} {f:Nat}:∀ k,(alone s f k=true->first k (ue s f)=none)/\(alone s f k=false->∃ m,first k (ue s f)=some (m,false)):=by
 intro k;constructor
 ·intro h;rw [bu];intro j hj;unfold ue;rw [if_pos (qb.1 (xQ h hj)).2]
 ·intro h
  cases hf:first k (ue s f) with
  | none=>
   exfalso;rw [bu] at hf;have:∀ j,j<=k->alone s f j=true:=by
    intro j;induction j with
    | zero=>intro _;rfl
    | succ j ih=>
     intro hj;refine qb.2 ⟨ih (by omega),?_⟩;have:=hf j (by omega);unfold ue at this;refine zbn fun hc=>?_
     rw [if_neg hc] at this;simp at this
   rw [this k (za6 _)] at h;simp at h
  | some r=>
   unfold first at hf
   obtain ⟨j,_,hj⟩:=zab hf;unfold ue at hj;split at hj
   ·simp at hj
   ·injection hj with hj;exact ⟨_,by rw [<-hj]⟩
theorem Pd {s:aa} (h:cU s) (f k:Nat) (hf:f < 1000000) (hk:k < 1000000):∃ m,Ob s (f:Int) (k:Int)=some (m,alone s f k)/\(alone s f k=true->m=(acc s f k:Int)):=by
 unfold Ob;have hn:=h.n0;have aeQ:=h.n64;rw [bt (fun i:Nat=>((acc s f i:Int),(i:Int))) (ue s f) k ?hn ((acc s f k:Int)) ?h0 ?h ?he]
 case hn=>unfold fuel;omega
 case h0=>rfl
 case he=>
  intro _;try dsimp only
  rw [au (bn (by omega))]
 case h=>
  intro i hi _;try dsimp only
  have hlt:=zc1 (f+i) hn;rw [ay (bq (by omega)),show aI .i64 (f:Int) (i:Int)=((f+i:Nat):Int) by rw [bh (by omega) (by omega)];omega,LX hn];simp only [za];rw [aF hlt];simp only [za];obtain ⟨_,e⟩:=KX h (f+i);rw [Pa (h.step _ hlt).ok,<-e];simp only [za];have b1:=KZ h f i;have b2:=Rw h (f+i);have e2:mask (N1 s (f+i)).af=mk s (f+i):=rfl;rw [e2,LY (by omega) (by omega),GL (by omega) (by omega),an (by omega)];unfold ue;by_cases hz:acc s f i&&& mk s (f+i)=0
  ·rw [if_pos hz,hz];rfl
  ·rw [if_neg hz,ay (by simp;omega)]
 obtain ⟨h1,h2⟩:=Fw (s:=s) (f:=f) k
 cases ha:alone s f k with
 | true=>rw [h1 ha];exact ⟨_,rfl,fun _=>rfl⟩
 | false=>
  obtain ⟨m,hm⟩:=h2 ha;rw [hm];exact ⟨_,rfl,fun h=>by simp at h⟩
theorem LZ {s:aa} (h:cU s) (i j:Nat):share s (N1 s i) (N1 s j)= !decide (mk s i&&& mk s j=0):=Fv (EY h i) (EY h j)
end cK
end
section
namespace cK
open Go Go.Pl
def gB (s:aa) (f0:Nat):Nat->List Nat×Nat
 | 0=>([f0],0)
 | i+1=>if alone s ((gB s f0 i).1.getD ((gB s f0 i).1.length - 1) 0) ((gB s f0 i).2+1)=true then ((gB s f0 i).1,(gB s f0 i).2+1) else ((gB s f0 i).1++[f0+i],1)
structure wA (s:aa) (f0 i:Nat) (o:List Nat) (z:Nat):Prop where
 ne:0 < o.length
 le:o.length<=i+1
 hd:o.getD 0 0=f0
 sz:o.getD (o.length - 1) 0+z=f0+i
 al:alone s (o.getD (o.length - 1) 0) z=true
 zp:0 < i->0 < z
 inc:∀ j,j+1 < o.length->o.getD j 0 < o.getD (j+1) 0
 st:∀ j,j+1 < o.length->alone s (o.getD j 0) (o.getD (j+1) 0 - o.getD j 0)=true/\alone s (o.getD j 0) (o.getD (j+1) 0 - o.getD j 0+1)=false
theorem tg (s:aa) (f:Nat):alone s f 1=true:=by
 rw [lJ];intro i hi j hj;omega
theorem nR {o:List Nat} {x j:Nat} (h:j < o.length):(o++[x]).getD j 0=o.getD j 0:=by
 rw [gM (by simp;omega),gM h,zaM h]
theorem wY (o:List Nat) (x:Nat):(o++[x]).getD o.length 0=x:=by
 rw [gM (by simp)];simp
theorem AX (s:aa) (f0:Nat):∀ i,wA s f0 i (gB s f0 i).1 (gB s f0 i).2
 | 0=>⟨by simp [gB],by simp [gB],rfl,rfl,by rw [lJ];intro i hi;simp [gB] at hi,by omega,fun j hj=>by simp [gB] at hj,fun j hj=>by simp [gB] at hj⟩
 | i+1=>by
  have h:=AX s f0 i;rw [gB];by_cases ha:alone s ((gB s f0 i).1.getD ((gB s f0 i).1.length - 1) 0) ((gB s f0 i).2+1)=true
  ·rw [if_pos ha];have:=h.le;have:=h.sz;exact ⟨h.ne,by dsimp only;omega,h.hd,by dsimp only;omega,ha,fun _=>by dsimp only;omega,h.inc,h.st⟩
  ·rw [if_neg ha];have hne:=h.ne;have hle:=h.le;have hsz:=h.sz;have hi0:0 < i:=by
    refine Nat.pos_of_ne_zero fun hc=>?_
    subst hc;exact ha (tg _ _)
   have hz:=h.zp hi0;refine ⟨by simp,by simp;omega,?_,?_,?_,fun _=>by simp,?_,?_⟩
   ·rw [nR hne];exact h.hd
   ·simp only [za9,zag,Nat.add_sub_cancel];rw [wY];omega
   ·exact tg _ _
   ·intro j hj;simp only [za9,zag] at hj;dsimp only;rw [nR (show j < (gB s f0 i).1.length by omega)];by_cases e:j+1 < (gB s f0 i).1.length
    ·rw [nR e];exact h.inc j e
    ·have:j+1=(gB s f0 i).1.length:=by omega
     rw [this,wY];have e2:j=(gB s f0 i).1.length - 1:=by omega
     rw [e2];omega
   ·intro j hj;simp only [za9,zag] at hj;dsimp only;rw [nR (show j < (gB s f0 i).1.length by omega)];by_cases e:j+1 < (gB s f0 i).1.length
    ·rw [nR e];exact h.st j e
    ·have:j+1=(gB s f0 i).1.length:=by omega
     rw [this,wY];have e2:j=(gB s f0 i).1.length - 1:=by omega
     rw [e2];have e3:f0+i - (gB s f0 i).1.getD ((gB s f0 i).1.length - 1) 0=(gB s f0 i).2:=by omega
     rw [e3];exact ⟨h.al,by simpa using ha⟩
theorem wA.last {s:aa} {f0 i:Nat} {o:List Nat} {z:Nat} (h:wA s f0 i o z):∀ j,j < o.length->o.getD j 0<=o.getD (o.length - 1) 0:=by
 intro j hj;have key:∀ d,j+d < o.length->o.getD j 0<=o.getD (j+d) 0:=by
  intro d;induction d with
  | zero=>intro _;exact za6 _
  | succ d ih=>
   intro hd;have:=ih (by omega);have:=h.inc (j+d) hd;have e:j+(d+1)=j+d+1:=rfl;rw [e];omega
 have:=key (o.length - 1 - j) (by omega)
 rwa [show j+(o.length - 1 - j)=o.length - 1 by omega] at this
theorem wA.big {s:aa} {f0 i:Nat} {o:List Nat} {z:Nat} (h:wA s f0 i o z):∀ j,j < o.length->f0+j<=o.getD j 0:=by
 intro j;induction j with
 | zero=>intro _;have:=h.hd;omega
 | succ j ih=>
  intro hj;have:=ih (by omega);have:=h.inc j hj;omega
def ints (o:List Nat):List Int:=o.map fun x:Nat=>(x:Int)
theorem fR (o:List Nat):(ints o).length=o.length:=by simp [ints]
theorem th (o:List Nat) (j:Nat):(ints o).getD j 0=(o.getD j 0:Int):=by
 by_cases h:j < o.length
 ·rw [gM (by rw [fR];exact h),gM h];simp [ints]
 ·simp [ints,List.getD,h]
theorem Po {s:aa} (h:cU s) (f0:Nat) (hf:f0 < 1000):Ol s (f0:Int)=some (ints (gB s f0 s.Steps.length).1):=by
 have hn:=h.n64;unfold Ol;rw [aN (fun i:Nat=>(((gB s f0 i).2:Int),(i:Int),ints (gB s f0 i).1)) s.Steps.length ?hn (ints (gB s f0 s.Steps.length).1) ?h0 ?h ?he]
 case hn=>unfold fuel;omega
 case h0=>rfl
 case he=>
  try dsimp only
  rw [au (bn (by omega))]
 case h=>
  intro i hi;try dsimp only
  have g:=AX s f0 i;have hne:=g.ne;have hle:=g.le;have hsz:=g.sz;rw [ay (bq (by omega)),fR,eL hne (by omega),aF (show (gB s f0 i).1.length - 1 < (ints (gB s f0 i).1).length by rw [fR];omega)];simp only [za];rw [<-gM (d:=0),th,an (by omega)];obtain ⟨m,e,_⟩:=Pd h ((gB s f0 i).1.getD ((gB s f0 i).1.length - 1) 0) ((gB s f0 i).2+1) (by omega) (by omega);rw [e,bh (by omega) (by omega),gB];simp only [za]
  cases ha:alone s ((gB s f0 i).1.getD ((gB s f0 i).1.length - 1) 0) ((gB s f0 i).2+1) with
  | true=>
   simp only [zb2,cond_false,za,if_true];rw [an (by omega),an (by omega)]
  | false=>
   simp only [zbV,cond_true,za8,if_false];rw [aO (by simp only [zag,fR];omega) (by simp only [zag,fR];omega)];simp only [za];rw [an (by omega),show aI .i64 0 1=(((0+1:Nat)):Int) from an (k:=0) (by omega)];simp [ints]
 rfl
def eV (s:aa):List Int:=ints (gB s 0 s.Steps.length).1
theorem Pp (s:aa):JG s=some (if uZ s=0 then (eV s,0) else ([],uZ s)):=by
 unfold JG;rw [E4];simp only [za];by_cases h0:uZ s=0
 ·rw [au (by simpa using h0),if_pos h0,show (0:Int)=((0:Nat):Int) from rfl,Po (oA h0) 0 (by omega)];rfl
 ·rw [ay (by simpa using h0),if_neg h0]
end cK
end
section
namespace cK
open Go Go.Pl
theorem Ni {σ ρ:Type} {body:σ->Option (σ⊕ρ)} {s0:σ} (st:Nat->σ) (g:Nat->Option ρ) (n:Nat) (hn:n < fuel) (u:ρ) (h0:s0=st 0)
 (h:∀ k,k < n->(∀ j,j < k->g j=none)->body (st k)=some (match g k with | none=> .inl (st (k+1)) | some r=> .inr r))
 (he:(∀ j,j < n->g j=none)->body (st n)=some (.inr u)):iter body s0=some ((first n g).getD u):=by
 subst h0;have key:∀ m k,k<=n->n - k < m->(∀ j,j < k->g j=none)->ki body m (st k)=some ((first n g).getD u):=by
  intro m;induction m with
  | zero=>intro k _ hlt;omega
  | succ m ih=>
   intro k hk hm hj;rw [ki];by_cases hkn:k < n
   ·rw [h k hkn hj]
    cases hg:g k with
    | none=>
     exact ih (k+1) hkn (by omega) (fun j hj'=>by
      rcases zaf j k with e | e
      ·exact hj j e
      ·have:j=k:=by omega
       subst this;exact hg)
    | some r=>simp only [mE hkn hj hg,zar]
   ·have:k=n:=by omega
    subst this;rw [he hj,iy hj];rfl
 exact key fuel 0 (zaJ _) (by omega) (fun j hj=>by omega)
theorem Nj {s:aa} (h:cU s) {i j:Nat} (hi:i < s.Steps.length) (hj:j < s.Steps.length):JF s i j=some (!decide (mk s i&&& mk s j=0)):=by
 rw [Pc h hi hj,<-KY hi,<-KY hj,LZ h]
theorem p5 {s:aa} (h:cU s):Jj s=some (eV s):=by
 have hn0:=h.n0;have hn:=h.n64;unfold Jj;rw [aN (fun k:Nat=>(((k+1:Nat):Int),ints (gB s 0 (k+1)).1)) (s.Steps.length - 1) ?hn (eV s) ?h0 ?h ?he]
 case hn=>unfold fuel;omega
 case h0=>rw [show gB s 0 (0+1)=([0],1) from if_pos (tg s 0)];rfl
 case he=>
  try dsimp only
  rw [au (bn (by omega)),show s.Steps.length - 1+1=s.Steps.length by omega];rfl
 case h=>
  intro k hk;try dsimp only
  have g:=AX s 0 (k+1);have hne:=g.ne;have hle:=g.le;have hsz:=g.sz;have hal:=g.al;rw [show gB s 0 (k+1+1)=if alone s ((gB s 0 (k+1)).1.getD ((gB s 0 (k+1)).1.length - 1) 0) ((gB s 0 (k+1)).2+1)=true then ((gB s 0 (k+1)).1,(gB s 0 (k+1)).2+1) else ((gB s 0 (k+1)).1++[0+(k+1)],1) from rfl];rw [ay (bq (by omega)),fR,eL hne (by omega),aF (show (gB s 0 (k+1)).1.length - 1 < (ints (gB s 0 (k+1)).1).length by rw [fR];omega)];simp only [za];rw [<-gM (d:=0),th];generalize hf:(gB s 0 (k+1)).1.getD ((gB s 0 (k+1)).1.length - 1) 0=f at hsz hal ⊢;generalize hz:(gB s 0 (k+1)).2=z at hsz hal ⊢;generalize ho:(gB s 0 (k+1)).1=o at hne hle ⊢;have ha:alone s f (z+1)=true↔∀ i,i < z->mk s (f+i)&&& mk s (f+z)=0:=by
   rw [qb,CJ];exact ⟨fun h=>h.2,fun h=>⟨hal,h⟩⟩
  rw [Ni (fun i:Nat=>(((f+i:Nat):Int),ints o)) (fun i=>if mk s (f+i)&&& mk s (f+z)=0 then none else some (ints o++[((k+1:Nat):Int)])) z ?hn (ints o) ?h0 ?h ?he]
  case hn=>unfold fuel;omega
  case h0=>rfl
  case he=>
   intro _;try dsimp only
   rw [au (bn (by omega))]
  case h=>
   intro i hi _;try dsimp only
   rw [ay (bq (by omega)),Nj h (show f+i < s.Steps.length by omega) (show k+1 < s.Steps.length by omega)];simp only [za];rw [show k+1=f+z by omega];by_cases hc:mk s (f+i)&&& mk s (f+z)=0
   ·rw [if_pos hc,au (by simp [hc]),an (by omega)];rfl
   ·rw [if_neg hc,ay (by simp [hc]),aO (by simp only [zag,fR];omega) (by simp only [zag,fR];omega)];rfl
  simp only [za];rw [an (by omega)];by_cases hc:alone s f (z+1)=true
  ·rw [if_pos hc,iy (fun i hi=>by rw [if_pos (ha.1 hc i hi)])];rfl
  ·rw [if_neg hc]
   cases N7:first z (fun i=>if mk s (f+i)&&& mk s (f+z)=0 then none else some (ints o++[((k+1:Nat):Int)])) with
   | none=>
    exfalso;rw [bu] at N7;refine hc (ha.2 fun i hi=>?_);have:=N7 i hi;refine zbn fun hx=>?_
    rw [if_neg hx] at this;cases this
   | some r=>
    unfold first at N7
    obtain ⟨i,_,hi⟩:=zab N7;split at hi
    ·cases hi
    ·injection hi with hi
     subst hi;simp [ints]
 rfl
def div (s:aa):List Nat:=(gB s 0 s.Steps.length).1
def bk (s:aa):Nat:=(div s).length
theorem QI (s:aa):eV s=ints (div s):=rfl
theorem eJ (s:aa):(eV s).length=bk s:=fR _
theorem cz {s:aa} (h:cU s):0 < bk s/\bk s<=s.Steps.length/\(div s).getD 0 0=0/\∀ j,j < bk s->(div s).getD j 0 < s.Steps.length/\j<=(div s).getD j 0:=by
 have hn:=h.n0;have g:=AX s 0 s.Steps.length;have hne:=g.ne;have hsz:=g.sz;have hz:=g.zp hn;have hb:=g.big ((gB s 0 s.Steps.length).1.length - 1) (by omega);unfold bk div;refine ⟨hne,by omega,g.hd,fun j hj=>⟨?_,?_⟩⟩
 ·have:=g.last j hj;omega
 ·have:=g.big j hj;omega
def aL (s:aa) (j:Nat):Nat:=if j+1 < bk s then (div s).getD (j+1) 0 - 1 else s.Steps.length - 1
theorem A9 {s:aa} (h:cU s) (j:Nat):aL s j < s.Steps.length:=by
 have:=h.n0;unfold aL;split
 ·rename_i hj;have:=((cz h).2.2.2 (j+1) hj).1;omega
 ·omega
theorem iC {s:aa} {j:Nat} (hj:j < bk s):idx (eV s) (j:Int)=some ((div s).getD j 0:Int):=by
 rw [aF (by rw [eJ];exact hj),<-gM (d:=0),QI,th]
theorem Bx {s:aa} (h:cU s) {j:Nat} (hj:j < bk s):AJ s (eV s) (j:Int)=some (aL s j:Int):=by
 have hn:=h.n64;have hn0:=h.n0;obtain ⟨f1,f2,f3,f4⟩:=cz h;unfold AJ aL;rw [an (by omega),eJ];by_cases hc:j+1 < bk s
 ·have h4:=f4 (j+1) hc;rw [ay (bq (by omega)),iC hc,if_pos hc];simp only [za];rw [eL (by omega) (by omega)]
 ·rw [au (bn (by omega)),if_neg hc,eL (by omega) (by omega)]
def top (o:List Nat) (k:Nat):Nat->Nat
 | 0=>0
 | m+1=>if o.getD m 0<=k then m else top o k m
theorem Lw {o:List Nat} {k:Nat}:∀ {m:Nat},0 < m->top o k m < m
 | 0,h=>by omega
 | m+1,_=>by
  rw [top];split
  ·omega
  ·by_cases hm:0 < m
   ·have:=Lw (o:=o) (k:=k) hm;omega
   ·have:m=0:=by omega
    subst this;simp [top]
def vH (s:aa) (k:Nat):Nat:=top (div s) k (bk s)
theorem sR {s:aa} (h:cU s) (k:Nat):vH s k < bk s:=Lw (cz h).1
theorem Hz {s:aa} (h:cU s) (k:Nat):Ij (eV s) (k:Int)=some (vH s k:Int):=by
 have hn:=h.n64;obtain ⟨f1,f2,f3,f4⟩:=cz h;unfold Ij;rw [aN (fun m:Nat=>((top (div s) k m:Int),(m:Int))) (bk s) ?hn (vH s k:Int) ?h0 ?h ?he]
 case hn=>unfold fuel;omega
 case h0=>rfl
 case he=>
  try dsimp only
  rw [eJ,au (bn (by omega))];rfl
 case h=>
  intro m hm;try dsimp only
  rw [eJ,ay (bq (by omega)),iC hm];simp only [za];rw [an (by omega),top];by_cases hc:(div s).getD m 0<=k
  ·rw [ay (JS (by omega)),if_pos hc];rfl
  ·rw [au (TB (by omega)),if_neg hc];rfl
 rfl
def gl (s:aa):List Int:=if bk s=2 then [fst s+1,fst s] else mods (fst s) (bk s)
theorem wF (s:aa):(gl s).length=bk s:=by
 unfold gl;split
 ·rename_i h;rw [h];rfl
 ·simp [mods]
theorem By {s:aa} (h:cU s):B6 s=some (fst s):=by
 unfold B6;rw [fst_eq h.a1 h.a6]
theorem A2 {s:aa} (h:cU s):NQ s=some (gl s):=by
 have hf:=pV h.a1 h.a6;have hn:=h.n64;obtain ⟨f1,f2,f3,f4⟩:=cz h;unfold NQ gl;rw [p5 h,By h];simp only [za];rw [eJ];by_cases h2:bk s=2
 ·rw [ay (by simp [h2]),if_pos h2,bh (by omega) (by omega)]
 ·rw [au (by simp;omega),if_neg h2];rw [aN (fun k:Nat=>((k:Int),mods (fst s) k)) (bk s) ?hn (mods (fst s) (bk s)) ?h0 ?h ?he]
  case hn=>unfold fuel;omega
  case h0=>simp [mods]
  case he=>
   try dsimp only
   rw [au (bn (by omega))]
  case h=>
   intro k hk;try dsimp only
   have W3:(mods (fst s) k).length=k:=by simp [mods]
   rw [ay (bq (by omega)),aO (by simp [W3];omega) (by simp [W3];omega)];simp only [za];rw [an (by omega),bh (by omega) (by omega),z5]
  rfl
def tc (s:aa):Int:=fst s+(bk s:Int)
def SG (s:aa):kz:=⟨s,dW s (tc s) s.Steps.length⟩
theorem GB {s:aa} (h:cU s):0<=tc s:=by
 have:=pV h.a1 h.a6;unfold tc;omega
theorem Fm {s:aa} (h:cU s):V1 s=some (SG s):=by
 have hf:=pV h.a1 h.a6;have hn:=h.n64;obtain ⟨f1,f2,f3,f4⟩:=cz h;unfold V1;rw [By h,p5 h];simp only [za];rw [eJ,bh (by omega) (by omega),QJ s _ hn (by omega) (by omega)];rfl
def bp (s:aa) (k:Nat):List Int:=(List.range k).map fun j=>(gl s).getD (vH s j) 0
theorem vz {s:aa} {k:Nat}:(bp s k).length=k:=by simp [bp]
theorem Ba {s:aa} {j:Nat} (hj:j < bk s):idx (gl s) (j:Int)=some ((gl s).getD j 0):=by
 rw [aF (by rw [wF];exact hj),<-gM (d:=0)]
theorem QK {s:aa} (h:cU s):OG s=some (bp s s.Steps.length):=by
 have hn:=h.n64;unfold OG;rw [aN (fun k:Nat=>((k:Int),bp s k)) s.Steps.length ?hn (bp s s.Steps.length) ?h0 ?h ?he]
 case hn=>unfold fuel;omega
 case h0=>rfl
 case he=>
  try dsimp only
  rw [au (bn (by omega))]
 case h=>
  intro k hk;try dsimp only
  have hl:=vz (s:=s) (k:=k);rw [ay (bq (by omega)),A2 h,p5 h];simp only [za];rw [Hz h k];simp only [za];rw [Ba (sR h k)];simp only [za];rw [aO (by simp [hl];omega) (by simp [hl];omega),an (by omega)];simp [bp,zb7]
 rfl
end cK
end
