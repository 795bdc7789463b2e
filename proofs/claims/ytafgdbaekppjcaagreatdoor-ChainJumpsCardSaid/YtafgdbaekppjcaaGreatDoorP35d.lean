/- Parts of my machine and its laws, joined: P35d P35e P35f P35g P35h. No condition. -/
import Derived.Test.YtafgdbaekppjcaaGreatDoorP34p
set_option linter.unusedSectionVars false
set_option linter.unusedVariables false
set_option linter.unusedSimpArgs false
section
namespace ck
open Go Go.Pl
def dv (l:List UInt8):Nat:=l.tail.foldl (fun a b=>a*10+(b.toNat - 48)) 0
def CT (p:UInt8) (l:List UInt8):Bool:=l.head?==some p&&(g8 l&&decide (l.length<=9))
theorem DH:((List.range 100).all fun k=>decide (dv (nameOf [109] k)=k)&&CT 109 (nameOf [109] k)&&(decide (dv (nameOf [119] k)=k)&&CT 119 (nameOf [119] k)))=true:=by kernel_rfl
theorem Gc {k:Nat} (hk:k < 100):dv (nameOf [109] k)=k/\CT 109 (nameOf [109] k)=true:=by
 have h:=zaf.1 DH k (zac.2 hk);simp only [za0,decide_eq_true_eq] at h;exact h.1
theorem Gd {k:Nat} (hk:k < 100):dv (nameOf [119] k)=k/\CT 119 (nameOf [119] k)=true:=by
 have h:=zaf.1 DH k (zac.2 hk);simp only [za0,decide_eq_true_eq] at h;exact h.2
def cls (l:List UInt8):Nat:=match l with
 | 115::_=>1
 | 109::_=>2
 | 119::_=>3
 | _::c::_=>if c.toNat < 64 then 0 else 4
 | _=>5
theorem W3 {l:List UInt8} (h:CT 109 l=true):cls l=2/\g8 l=true/\l.length<=9:=by
 unfold CT at h;simp only [za0,decide_eq_true_eq,beq_iff_eq] at h;obtain ⟨h1,h2,h3⟩:=h
 cases l with
 | nil=>cases h1
 | cons a l=>injection h1 with h1;subst h1;exact ⟨rfl,h2,h3⟩
theorem W4 {l:List UInt8} (h:CT 119 l=true):cls l=3/\g8 l=true/\l.length<=9:=by
 unfold CT at h;simp only [za0,decide_eq_true_eq,beq_iff_eq] at h;obtain ⟨h1,h2,h3⟩:=h
 cases l with
 | nil=>cases h1
 | cons a l=>injection h1 with h1;subst h1;exact ⟨rfl,h2,h3⟩
def Qm (k:Nat):List UInt8:=[UInt8.ofNat (97+k / 2),UInt8.ofNat (48+k % 2)]
def BT (l:List (List UInt8)) (c:Nat):Bool:=l.all fun x=>cls x==c&&(g8 x&&decide (x.length<=9))
theorem Sd:BT ((List.range 12).map Qm) 0=true:=by kernel_rfl
theorem Se:BT ((List.range 6).flatMap fun a=>[vY a true,vY a false]) 4=true:=by kernel_rfl
theorem Sf:((List.range 12).map Qm).Nodup:=by decide
theorem J2:((List.range 6).flatMap fun a=>[vY a true,vY a false]).Nodup:=by decide
theorem uu {l:List (List UInt8)} {c:Nat} (h:BT l c=true) {x:List UInt8} (hx:x∈l):cls x=c/\g8 x=true/\x.length<=9:=by
 have:=zaf.1 h x hx;simpa only [za0,decide_eq_true_eq,beq_iff_eq] using this
theorem oD {n m:Nat} (h:n<=m):(List.range n).Sublist (List.range m):=by
 rw [show List.range n=(List.range m).take n by rw [List.take_range,Nat.min_eq_left h]];exact List.take_sublist _ _
theorem oE {α:Type} {l m:List α} (f:α->Nat) (h1:l.Nodup) (h2:m.Nodup) (h:∀ x∈l,∀ y∈m,f x≠f y):(l++m).Nodup:=
 List.nodup_append.2 ⟨h1,h2,fun x hx y hy e=>h x hx y hy (congrArg f e)⟩
theorem y8 {α β:Type} {l:List α} (f:α->β) (h:l.Nodup) (hf:∀ x∈l,∀ y∈l,f x=f y->x=y):(l.map f).Nodup:=by
 induction l with
 | nil=>exact List.nodup_nil
 | cons a l ih=>
  rw [zbF] at h;rw [za5,zbF];refine ⟨fun hm=>?_,ih h.2 fun x hx y hy=>hf x (zau _ hx) y (zau _ hy)⟩;obtain ⟨b,hb,e⟩:=zaT.1 hm;have:=hf b (zau _ hb) a (zaP ..) e;subst this;exact h.1 hb
theorem EW {s:af} (h:Good s):((chain s).map (·.Name)).Nodup/\∀ x∈chain s,cls x.Name=2/\g8 x.Name=true/\x.Name.length<=9:=by
 have hn:=h.n64;unfold chain;split
 ·refine ⟨show ([[109,49],[109,48]]:List (List UInt8)).Nodup by decide,fun x hx=>?_⟩;simp only [zad,zaV,or_false] at hx;rcases hx with rfl | rfl<;>exact ⟨rfl,rfl,show (2:Nat)<=9 by decide⟩
 ·constructor
  ·unfold dc;rw [zb6];refine y8 _ List.nodup_range fun i hi j hj e=>?_
   have hi:=zac.1 hi;have hj:=zac.1 hj;have e:nameOf [109] i=nameOf [109] j:=e;rw [<-(Gc (k:=i) (by omega)).1,e,(Gc (k:=j) (by omega)).1]
  ·intro x hx;obtain ⟨k,hk,rfl⟩:=zaT.1 hx;have hk:=zac.1 hk;exact W3 (Gc (k:=k) (by omega)).2
theorem DI {s:af} {M:List Int} {k:Nat} {x:aS} (hx:x∈kD s M k):x.Name=nameOf [119] k:=by
 unfold kD at hx;split at hx
 ·split at hx
  ·cases hx
  ·simp only [zad,zaV,or_false] at hx;subst hx;rfl
 ·cases hx
theorem x9 {s:af} {M:List Int}:∀ k,k<=64->((eX s M k).map (·.Name)).Nodup/\∀ x∈eX s M k,∃ j,j < k/\x.Name=nameOf [119] j
 | 0,_=>⟨List.nodup_nil,fun x hx=>by cases hx⟩
 | k+1,hk=>by
  obtain ⟨h1,h2⟩:=x9 (s:=s) (M:=M) k (by omega);rw [lX];constructor
  ·rw [zal];refine oE dv h1 ?_ fun x hx y hy=>?_
   ·have hl:=z9 s M k;match hc:kD s M k with
    | []=>exact List.nodup_nil
    | [x]=>simp
    | _::_::_=>rw [hc] at hl;simp at hl
   ·obtain ⟨a,ha,rfl⟩:=zaT.1 hx;obtain ⟨b,hb,rfl⟩:=zaT.1 hy;obtain ⟨j,j1,j2⟩:=h2 a ha;rw [j2,DI hb,(Gd (k:=j) (by omega)).1,(Gd (k:=k) (by omega)).1];omega
  ·intro x hx;rcases zaZ.1 hx with hx | hx
   ·obtain ⟨j,j1,j2⟩:=h2 x hx;exact ⟨j,by omega,j2⟩
   ·exact ⟨k,by omega,DI hx⟩
theorem DJ (s:af) (M:List Int) (k:Nat):(fk s M k).map (·.Name)=(List.range k).flatMap fun a=>[vY a true,vY a false]:=by
 unfold fk;rw [List.map_flatMap];rfl
theorem DK {α β:Type} (f:α->List β) {l m:List α} (h:l.Sublist m):(l.flatMap f).Sublist (m.flatMap f):=by
 induction h with
 | slnil=>exact List.Sublist.refl _
 | cons a _ ih=>rw [zb0];exact ih.trans (List.sublist_append_right _ _)
 | cons_cons a _ ih=>rw [zb0,zb0];exact (List.Sublist.refl _).append ih
def CA (s:af):List (List UInt8):=(List.range (2*s.U.toNat)).map Qm++([115,116,97,114,116]::((chain s).map (·.Name)++((eX s (dN s) s.Steps.length).map (·.Name)++(fk s (dN s) s.U.toNat).map (·.Name))))
theorem MD {s:af} (h:Good s):(CA s).Nodup/\∀ x∈CA s,g8 x=true/\x.length<=9:=by
 have ha:=h.a6;have hn:=h.n64;obtain ⟨c1,c2⟩:=EW h;obtain ⟨k1,k2⟩:=x9 (s:=s) (M:=dN s) s.Steps.length hn;have l2:∀ x∈(List.range (2*s.U.toNat)).map Qm,cls x=0/\g8 x=true/\x.length<=9:=fun x hx=>uu Sd (((oD (by omega)).map Qm).subset hx)
 have p2:∀ x∈(fk s (dN s) s.U.toNat).map (·.Name),cls x=4/\g8 x=true/\x.length<=9:=fun x hx=>uu Se ((DK _ (oD (show s.U.toNat<=6 by omega))).subset (by rw [DJ] at hx;exact hx))
 have p1:((fk s (dN s) s.U.toNat).map (·.Name)).Nodup:=by
  rw [DJ];exact J2.sublist (DK _ (oD (by omega)))
 have l1:((List.range (2*s.U.toNat)).map Qm).Nodup:=Sf.sublist ((oD (by omega)).map Qm);have c3:∀ x∈(chain s).map (·.Name),cls x=2/\g8 x=true/\x.length<=9:=fun x hx=>by obtain ⟨a,ha,rfl⟩:=zaT.1 hx;exact c2 a ha
 have k3:∀ x∈(eX s (dN s) s.Steps.length).map (·.Name),cls x=3/\g8 x=true/\x.length<=9:=fun x hx=>by
  obtain ⟨a,ha,rfl⟩:=zaT.1 hx;obtain ⟨j,j1,j2⟩:=k2 a ha;have:=W4 (Gd (k:=j) (by omega)).2;rw [<-j2] at this;exact this
 have kp:∀ x∈(eX s (dN s) s.Steps.length).map (·.Name)++(fk s (dN s) s.U.toNat).map (·.Name),(cls x=3\/cls x=4)/\g8 x=true/\x.length<=9:=fun x hx=>by
  rcases zaZ.1 hx with hx | hx
  ·exact ⟨.inl (k3 x hx).1,(k3 x hx).2⟩
  ·exact ⟨.inr (p2 x hx).1,(p2 x hx).2⟩
 have ckp:∀ x∈(chain s).map (·.Name)++((eX s (dN s) s.Steps.length).map (·.Name)++(fk s (dN s) s.U.toNat).map (·.Name)),2<=cls x/\g8 x=true/\x.length<=9:=fun x hx=>by
  rcases zaZ.1 hx with hx | hx
  ·exact ⟨by rw [(c3 x hx).1];exact za7 _,(c3 x hx).2⟩
  ·exact ⟨by rcases (kp x hx).1 with e | e<;>rw [e]<;>decide,(kp x hx).2⟩
 unfold CA;constructor
 ·refine oE cls l1 (zbF.2 ⟨fun hm=>?_,oE cls c1 (oE cls k1 p1 fun x hx y hy=>?_) fun x hx y hy=>?_⟩) fun x hx y hy=>?_
  ·have:=(ckp _ hm).1;exact absurd this (by decide)
  ·rw [(k3 x hx).1,(p2 y hy).1];decide
  ·rw [(c3 x hx).1];rcases (kp y hy).1 with e | e<;>rw [e]<;>decide
  ·rw [(l2 x hx).1];rcases zad.1 hy with rfl | hy
   ·decide
   ·have:=(ckp y hy).1;omega
 ·intro x hx;rcases zaZ.1 hx with hx | hx
  ·exact (l2 x hx).2
  rcases zad.1 hx with rfl | hx
  ·exact ⟨rfl,by decide⟩
  ·exact (ckp x hx).2
end ck
end
section
namespace ck
open Go Go.Pl
theorem tj {s:af} (h:Good s):vX (cw s):=by
 have hk:=(MD h).2;constructor
 ·intro k hk;show ([[115,116,97,114,116]]:List (List UInt8))[k].length < _;have:k=0:=by have:k < 1:=hk;omega
  subst this;show (5:Nat) < 2 ^ 63;decide
 ·intro k hi;have:=(hk ((cw s).aa[k].Name) (by
   unfold CA;refine List.mem_append_right _ (zau _ ?_);have hm:(cw s).aa[k]∈(chain s++eX s (dN s) s.Steps.length)++fk s (dN s) s.U.toNat:=zax hi;rw [<-zaH,<-zal,<-zal];exact zaT.2 ⟨_,hm,rfl⟩)).2
  omega
theorem tn {s:af} (h:Good s) (hc:s.Steps.length+cnt s s.Steps.length+2*s.U.toNat<=64):cG (cw s):=⟨h.a1,h.a6,by show (1:Nat)<=16;decide,by rw [kG h];exact hc⟩
theorem F3 (s:af):fl (cw s)=fst s:=rfl
theorem Ig {s:af} (h:Good s):((CA s).length:Int)=nL s:=by
 have:=qQ h;have:=h.a1;have e:fst s=2*s.U+1:=rfl;unfold CA;simp only [za8,zaa,List.length_range,zaK,iq,wV fm _ (za7 _),lD];omega
theorem ME {s:af} (h:Good s) (hz:cG (cw s)) (k:Nat) (hk:k < (CA s).length):nm (cw s) k=(CA s)[k]:=by
 have hl:=Ig h;have Ql:=h.a1;have Yq:=h.a6;have hn:=qQ h;have e:fst s=2*s.U+1:=rfl;by_cases h1:k < 2*s.U.toNat
 ·have e1:(CA s)[k]?=some (Qm k):=by
   unfold CA;rw [zai (by simpa using h1),zav,List.getElem?_range h1];rfl
  rw [za1 hk] at e1;injection e1 with e1
  rw [e1];apply vf
  unfold uP;rw [hz.qJ,gI (by show _<=2*s.U;omega) (by show 2*s.U < _;omega)];dsimp only [Option.bind];rw [bw (show (k:Int) < 2*(cw s).U by show (k:Int) < 2*s.U;omega),cond_true];have:k=0\/k=1\/k=2\/k=3\/k=4\/k=5\/k=6\/k=7\/k=8\/k=9\/k=10\/k=11:=by omega
  clear h1 hk e1;rcases this with rfl | rfl | rfl | rfl | rfl | rfl | rfl | rfl | rfl | rfl | rfl | rfl<;>rfl
 ·by_cases h2:k=2*s.U.toNat
  ·rw [TC hz 0 (by show 0 < 1;decide) k (by show (k:Int)=2*s.U+(0:Nat);omega)];have e1:(CA s)[k]?=some [115,116,97,114,116]:=by
    subst h2;unfold CA;rw [zaj (by simp)];simp only [zaa,List.length_range,zbl,zaq]
   rw [za1 hk] at e1;injection e1 with e1
   rw [e1];rfl
  ·obtain ⟨i,hi⟩:∃ i,k=2*s.U.toNat+1+i:=⟨k - (2*s.U.toNat+1),by omega⟩;subst hi;have hs:i < (cw s).aa.length:=by rw [kG h];omega
   rw [MF hz i hs _ (by rw [F3];omega)];have key:(CA s)[2*s.U.toNat+1+i]?=some (cw s).aa[i].Name:=by
    have e2:CA s=(List.range (2*s.U.toNat)).map Qm++([115,116,97,114,116]::(cw s).aa.map (·.Name)):=by
     unfold CA cw base;rw [zal,zal,zaH]
    rw [e2,zaj (by simp;omega)];simp only [zaa,List.length_range];rw [show 2*s.U.toNat+1+i - 2*s.U.toNat=i+1 by omega,zbE,zav,za1 hs];rfl
   rw [za1 hk] at key;injection key with key
   exact key.symm
theorem zO {s:af} (h:Good s) (hz:cG (cw s)) (k:Nat) (hk:(k:Int) < nL s):yU (cw s) (k:Int)=some 0:=by
 have hl:=Ig h;have hk':k < (CA s).length:=by omega
 obtain ⟨n1,n2⟩:=MD h;rw [wW hz (tj h) k hk,ME h hz k hk'];obtain ⟨w1,w2⟩:=n2 _ (zax hk');have hd:decide (∃ j,j < k/\nm (cw s) j=(CA s)[k])=false:=decide_eq_false fun ⟨j,j1,j2⟩=>by
  rw [ME h hz j (by omega)] at j2;exact List.pairwise_iff_getElem.1 n1 j k (by omega) hk' j1 j2
 unfold Us;rw [hd,if_pos w1,if_neg (by omega),if_neg (by simp)]
theorem Dk {n i:Int} (h0:0<=i) (h1:i < n):Ft n (bq i):=by
 rw [wv];exact ⟨fun _=>⟨h0,h1,rfl⟩,(nN n _).2 fun i hi=>by cases hi⟩
theorem Ih {n:Int} {l:List ai} (h:sD n l):A6 n l:=(nN n l).2 fun j hj=>by
 obtain ⟨i,h1,h2,h3⟩:=h j hj;rw [h1];exact Dk h2 h3
theorem Flat.Ft {n:Int} {x:ai} (h:Flat n x):Ft n x:=by
 cases h with
 | line i h0 h1=>exact Dk h0 h1
 | Qn i h0 h1=>rw [wv];exact ⟨fun e=>(by cases e),Ih (sD.one h0 h1)⟩
 | some op l ho h2 h6 hl=>rw [wv];exact ⟨fun e=>(by rcases ho with rfl | rfl<;>cases e),Ih hl⟩
theorem rO {p:Int->Bool} {n:Int} (hp:∀ i,i < n->p i=false):∀ {l:List ai},sD n l->gi p l=false
 | [],_=>rfl
 | x::l,h=>by
  obtain ⟨i,h1,_,h3⟩:=h 0 (by simp);have h1:x=bq i:=h1;have e:m9 p (bq i)=false:=by
   rw [vg];show (true&&p i||gi p [])=false;rw [hp i h3];rfl
  rw [gi,rO hp h.tail,h1,e];rfl
theorem Flat.any {p:Int->Bool} {n:Int} (hp:∀ i,i < n->p i=false) {x:ai} (h:Flat n x):m9 p x=false:=by
 cases h with
 | line i h0 h1=>have:=rO hp (sD.one h0 h1);rw [gi,gi,Bool.or_false] at this;exact this
 | Qn i h0 h1=>rw [vg];show (false&&_||gi p [bq i])=false;rw [rO hp (sD.one h0 h1)];rfl
 | some op l ho h2 h6 hl=>
  rw [vg];show ((op==1&&p 0)||gi p l)=false;rw [rO hp hl];rcases ho with rfl | rfl<;>rfl
theorem NB {s:af} (h:Rt s) (hz:cG (cw s)) {i:Nat} (hi:i < (cw s).aa.length):A7 (cw s) (i:Int)=some 0:=by
 have hs:=hz.s;have hf:=fQ h.a1 h.a6;have R:=qg h hi;have hN:fl (cw s)+((cw s).aa.length:Int)=nL s:=rfl;have hN2:nL s<=256:=by unfold nL;omega
 have hN3:nL s=fst s+((cw s).aa.length:Int):=rfl;unfold A7;rw [ax hi,hz.qJ];dsimp only [Option.bind];rw [F3,bA (by omega) (by omega)];obtain ⟨k,hk⟩:∃ k:Nat,fst s+(i:Int)=(k:Int):=⟨(fst s+(i:Int)).toNat,by omega⟩;rw [hk,zO h.toGood hz k (by omega)];dsimp only;rw [show ((0:Int) !=0)=false from rfl,cond_false];have hk3:=R.kind;rw [bg (show ¬ (cw s).aa[i].Kind < 0 by omega),cond_false];dsimp only;rw [decide_eq_false (show ¬ (cw s).aa[i].Kind≥3 by omega),cond_false,hz.nc,hN];dsimp only;rw [eta,qh (by omega) hN2 R.on];dsimp only;rw [show ((0:Int) !=0)=false from rfl,cond_false];have aae:(cw s).aa[i].Kind=0->QB (cw s) (i:Int)=some false:=fun h0=>by
  rw [Ii (cw s) hz i hi R.on.size.1 R.on.size.2 R.on.Ft];congr 1;refine Flat.any (n:=fst s+(i:Int)) (fun j hj=>?_) (R.gate h0);unfold lp;rw [F3,decide_eq_false (by omega),Bool.false_and]
 have hd:=R.del;rcases hk3 with h0 | h0 | h0
 ·obtain ⟨o1,o2⟩:=R.U3 (by omega);rw [if_neg (by omega)] at hd;rw [h0,o1,o2,hd,aae h0];rfl
 ·rw [if_neg (by omega)] at hd;rw [h0,eta,qh (by omega) hN2 (R.off h0),hd];rfl
 ·obtain ⟨o1,o2⟩:=R.U3 (by omega);rw [if_pos h0] at hd;rw [h0,o1,o2,bg (show ¬ (cw s).aa[i].dD < 1 by omega),decide_eq_false (show ¬ (cw s).aa[i].dD > 1000000 by omega)];rfl
theorem uo {s:af} (h:Rt s) (hz:cG (cw s)):Ut (cw s)=some 0:=by
 have Ql:=h.a1;have Yq:=h.a6;have hs:=hz.s;have hN:=qQ h.toGood;have e:fst s=2*s.U+1:=rfl;unfold Ut;rw [bg (show ¬ (cw s).U < 1 by show ¬ s.U < 1;omega),cond_false,za,decide_eq_false (show ¬ (cw s).U > 6 by show ¬ s.U > 6;omega),cond_false,decide_eq_false (show ¬ ((cw s).ay.length:Int) > 16 by show ¬ ((1:Nat):Int) > 16;decide),cond_false,za,decide_eq_false (show ¬ ((cw s).aa.length:Int) > 64 by omega),cond_false];rw [jP 1 (by decide) (fun k hk=>by
  have:k=0:=by omega
  subst this;rw [show decide (((0:Nat):Int) < ((cw s).ay.length:Int))=true from rfl,cond_true,gI (by show _<=2*s.U;omega) (by show 2*s.U < _;omega),bA (by show _<=2*s.U+((0:Nat):Int);omega) (by show 2*s.U+((0:Nat):Int) < _;omega)];obtain ⟨k,hk⟩:∃ k:Nat,(cw s).U=((k:Nat):Int):=⟨s.U.toNat,by show s.U=_;omega⟩;rw [show 2*(cw s).U+((0:Nat):Int)=((2*k:Nat):Int) by omega,zO h.toGood hz (2*k) (by have:s.U=(k:Int):=hk;omega)];rfl) rfl]
 show (Option.bind (iter _ 0) _)=_;rw [jP (cw s).aa.length (show _ < 2 ^ 64 by omega) (fun k hk=>by
  rw [bw (show ((k:Nat):Int) < ((cw s).aa.length:Int) by omega),cond_true,NB h hz hk];dsimp only [Option.bind];rw [show ((0:Int) !=0)=false from rfl,cond_false,aq (by omega)]) (by rw [bg (by omega),cond_false])]
 rw [za,Sum.elim_inl,zP hz];have hp:∀ d:Int,(pm s d s.U.toNat).length=s.U.toNat:=fun d=>wz
 have hb:=lF (s:=s);have key:((cw s).bU++(cw s).aX).any (yL (fl (cw s)+((cw s).aa.length:Int)))=false:=by
  rw [zbd];intro x hx;have hx':x∈pm s 0 s.U.toNat\/x∈pm s 1 s.U.toNat:=zaZ.1 hx;have:0<=x/\x < nL s:=by
   rcases hx' with hx | hx<;>
   ·obtain ⟨j,hj,rfl⟩:=zaT.1 hx;have hj:=zac.1 hj;omega
  show ¬ (decide (x < 0)||decide (x≥nL s))=true;rw [bg (by omega),decide_eq_false (by omega)];decide
 rw [key,if_neg (by
  have h0:=hp 0;have h1:=hp 1;show ¬ (((pm s 0 s.U.toNat).length:Int)≠s.U\/((pm s 1 s.U.toNat).length:Int)≠s.U);omega),if_neg (by simp)];rfl
theorem GD {s:af} (h:Rt s) (hz:cG (cw s)):m64 (cw s)=some 0:=by
 obtain ⟨e,h1,h2⟩:=Dl (cw s) (tj h.toGood);rw [uo h hz] at h2;injection h2 with h2;subst h2;exact h1
end ck
end
section
namespace ck
open Go Go.Pl
def el (s:af) (k:Nat):List Bool:=(List.range s.U.toNat).map (ends s k)
theorem BC (s:af) (k:Nat):(el s k).length=s.U.toNat:=by simp [el]
theorem Pz {s:af} (h:Good s) (k:Nat):mj (cv (ends s k)).1 none (some s.U)=some (((cv (ends s k)).1.drop 0).take (s.U.toNat - 0))/\((cv (ends s k)).1.drop 0).take (s.U.toNat - 0)=el s k:=by
 have h1:=h.a1;have h6:=h.a6;constructor
 ·unfold mj;rw [if_pos ⟨Int.le_refl _,by show (0:Int)<=s.U;omega,by rw [(cv (ends s k)).2];show s.U<=6;omega⟩];rfl
 ·show (((List.range 6).map (ends s k)).drop 0).take (s.U.toNat - 0)=_;rw [zaW,Nat.sub_zero,<-zbH,List.take_range,Nat.min_eq_left (by omega)];rfl
theorem yo {s:af} (h:Rt s) {i:Nat} (hi:i < s.Steps.length):s.Steps[i].ah.length<=6/\∀ k (hk:k < s.Steps[i].ah.length),0<=s.Steps[i].ah[k].aj/\s.Steps[i].ah[k].aj < s.U/\s.Steps[i].ah[k].aj < 6:=by
 have:=h.a6;refine ⟨(h.step i hi).le,fun k hk=>?_⟩;have h1:=((h.YB i hi).1.ok.act k hk).1;have h2:=(h.YB i hi).1.Qd k hk;omega
theorem Xf {s:af} (hc:yO s=0) {k:Nat} (hk:k<=s.Steps.length):m53 s (k:Int)=some (el s k,0):=by
 have h:=Bs hc;have h1:=h.a1;have h6:=h.a6;have P8:=h.n64;have hl:=BC s k;obtain ⟨t1,t2⟩:=Pz h.toGood k;unfold m53;rw [M0,hc,za,show ((0:Int) !=0)=false from rfl,cond_false];rw [bp (s0:=((0:Int),([]:List Bool),(0:Int),(eB.rep 6 false))) (fun j:Nat=>((j:Int),([]:List Bool),(0:Int),cv (ends s j))) (fun j=>if j=k then some (el s k,(0:Int)) else none) s.Steps.length (show _ < 2 ^ 64 by omega) (([]:List Bool),(0:Int),cv (ends s s.Steps.length)) rfl (fun j hj _=>by
  dsimp only;rw [bw (show ((j:Nat):Int) < (s.Steps.length:Int) by omega),cond_true,ax hj];dsimp only [Option.bind];by_cases e:j=k
  ·subst e;rw [show (((j:Nat):Int)==((j:Nat):Int))=true from beq_self_eq_true _,cond_true,t1,if_pos rfl];dsimp only;rw [t2,if_pos (by omega),if_neg (by omega),aM (by simp;omega) (by simp;omega)];rfl
  ·rw [show (((j:Nat):Int)==((k:Nat):Int))=false from by rw [beq_eq_false_iff_ne];omega,cond_false,if_neg e];obtain ⟨s1,s2⟩:=yo h hj;rw [IP _ _ s1 (fun i hi=>⟨(s2 i hi).1,(s2 i hi).2.2⟩),aq (by omega),<-iw hj]) (fun _=>by
  dsimp only;rw [bg (by omega),cond_false])]
 by_cases e:k=s.Steps.length
 ·rw [j8 (fun j hj=>if_neg (by omega))];dsimp only [Option.bind,Sum.elim_inl];subst e;rw [show (((s.Steps.length:Nat):Int)==((s.Steps.length:Nat):Int))=true from beq_self_eq_true _,cond_true,t1];dsimp only;rw [t2,if_pos (by omega),if_neg (by omega),aM (by simp;omega) (by simp;omega)];rfl
 ·rw [mK (g:=fun j=>if j=k then some (el s k,(0:Int)) else none) (k:=k) (r:=(el s k,(0:Int))) (by omega) (fun j hj=>if_neg (by omega)) (if_pos rfl)];rfl
theorem Xi {s:af} (h:Rt s) {k:Nat} (hk:k<=s.Steps.length):m98 s (k:Int)=some (el s k):=by
 have h1:=h.a1;have h6:=h.a6;have P8:=h.n64;unfold m98;have hm:iD 1 s.U false=some (el s 0):=by
  unfold iD;rw [if_pos ⟨by omega,by omega,by omega⟩];congr 1;apply zb4
  ·rw [zap,BC]
  ·intro i i1 i2;simp [el,ends]
 rw [hm,za];rw [aT (s0:=(el s 0,(0:Int))) (fun j:Nat=>(el s j,(j:Int))) k (show k < 2 ^ 64 by omega) (el s k) rfl (fun j hj=>by
  have hj':j < s.Steps.length:=by omega
  obtain ⟨s1,s2⟩:=yo h hj';dsimp only;rw [bw (show ((j:Nat):Int) < (k:Int) by omega),cond_true,ax hj'];dsimp only [Option.bind];unfold el;rw [I1 _ _ (by omega) _ s1 (fun i hi=>⟨(s2 i hi).1,by have:=(s2 i hi).2.1;omega⟩),aq (by omega),<-iw hj']) (by
  dsimp only;rw [bg (by omega),cond_false])]
 rfl
theorem Kb {c:an} (h:cG c) {x:bM} (F:Fit c x) (he:∀ v∈x.Ends,0<=v/\v < 4) (ht:∀ v∈x.aV,0<=v/\v < 3)
 (hc:∀ (j:Nat) (h1:j < c.aa.length) (h2:j < x.aV.length) (h3:j < x.cu.length),if c.aa[j].Kind=2 then x.cu[j]=(x.aV[j]==2) else x.aV[j]=0):CO c x=some 0:=by
 have:=h.a1;have:=h.a6;have:=h.i;have:=h.s;have f1:=F.e;have f2:=F.v;have f3:=F.i;have f4:=F.s;have f5:=F.t;have ne:∀ {a b:Int},a=b->(a !=b)=false:=fun e=>by rw [e];exact bne_self_eq_false _
 unfold CO;rw [ne f1,ne f2,ne (show (x.ay.length:Int)=(c.ay.length:Int) by omega),ne (show (x.cu.length:Int)=(c.aa.length:Int) by omega),ne (show (x.aV.length:Int)=(c.aa.length:Int) by omega)];rw [cond_false,cond_false,cond_false,cond_false,za,cond_false,oA _ _ (by omega),oA _ _ (by omega)];have a1:(x.Ends.any fun v=>decide (v < 0)||decide (v≥4))=false:=zbd.2 fun v hv hn=>by
  have:=he v hv;rw [bg (by omega),decide_eq_false (by omega)] at hn;cases hn
 have a2:(x.aV.any fun v=>decide (v < 0)||decide (v≥3))=false:=zbd.2 fun v hv hn=>by
  have:=ht v hv;rw [bg (by omega),decide_eq_false (by omega)] at hn;cases hn
 rw [a1,a2,if_neg (by simp),za,Sum.elim_inl,za,Sum.elim_inl];rw [jP x.aV.length (show _ < 2 ^ 64 by omega) (fun j hj=>by
  have h1:j < c.aa.length:=by omega
  have h3:j < x.cu.length:=by omega
  have hq:=hc j h1 hj h3;rw [bw (show ((j:Nat):Int) < (x.aV.length:Int) by omega),cond_true,ax h1,ax hj,ax h3,aq (by omega)];dsimp only [Option.bind];by_cases hk:c.aa[j].Kind=2
  ·rw [if_pos hk] at hq;rw [hk,hq]
   cases x.aV[j]==2<;>rfl
  ·rw [if_neg hk] at hq;rw [show (c.aa[j].Kind==2)=false from beq_eq_false_iff_ne.2 hk,hq];rfl) (by rw [bg (by omega),cond_false])]
 rfl
theorem GU {s:af} (h:Rt s) (hz:cG (cw s)) {x:bM} (hf:CO (cw s) x=some 0):Yr (cw s) x=some 0:=by
 obtain ⟨e,h1,h2,_⟩:=NF (cw s) (tj h.toGood) x;unfold m77 at h2;rw [uo h hz,za,show ((0:Int) !=0)=false from rfl,cond_false,hf] at h2;injection h2 with h2;subst h2;exact h1
end ck
end
section
namespace ck
open Go Go.Pl
def zq (E:List Int) (I W:List Bool):List Bool:=(E.flatMap fun v=>[v==0,v==2])++I++W
theorem BQ (E:List Int) (I W:List Bool):(zq E I W).length=2*E.length+I.length+W.length:=by
 unfold zq;rw [za8,za8,iM]
theorem R4 (E:List Int) (I W:List Bool) (k:Nat) (b:Bool):(zq E I W).set (2*E.length+I.length+k) b=zq E I (W.set k b):=by
 unfold zq;rw [List.set_append_right _ _ (by rw [za8,iM];omega)];congr 2;rw [za8,iM];omega
def gW (c:an) (E:List Int) (I:List Bool):Nat->List Bool->List Bool
 | 0,W=>W
 | k+1,W=>match c.aa[k]? with
  | some x=>if x.Kind=0 then (gW c E I k W).set k (fv (zq E I (gW c E I k W)) x.On) else gW c E I k W
  | none=>gW c E I k W
theorem ID {c:an} {E:List Int} {I W:List Bool} {k:Nat} (h:k < c.aa.length):gW c E I (k+1) W=if c.aa[k].Kind=0 then (gW c E I k W).set k (fv (zq E I (gW c E I k W)) c.aa[k].On) else gW c E I k W:=by
 rw [gW,za1 h]
theorem pZ (c:an) (E:List Int) (I:List Bool):∀ (k:Nat) (W:List Bool),(gW c E I k W).length=W.length
 | 0,_=>rfl
 | k+1,W=>by
  rw [gW];split
  ·split
   ·rw [zbb,pZ]
   ·exact pZ c E I k W
  ·exact pZ c E I k W
theorem vp {c:an} {E:List Int} {I W:List Bool} {j:Nat} (hj:∀ (h:j < c.aa.length),c.aa[j].Kind≠0):∀ k,(gW c E I k W)[j]?=W[j]?
 | 0=>rfl
 | k+1=>by
  rw [gW];split
  ·rename_i x hx;obtain ⟨h1,h2⟩:=zab.1 hx;split
   ·rename_i h0;have:k≠j:=by rintro rfl;exact hj h1 (by rw [h2];exact h0)
    rw [za6 this,vp hj k]
   ·exact vp hj k
  ·exact vp hj k
def Gts (c:an):Prop:=∀ (i:Nat) (h:i < c.aa.length),c.aa[i].Kind=0->Flat (fl c+(c.aa.length:Int)) c.aa[i].On
structure KE (c:an) (E:List Int) (V I W:List Bool) (T:List Int):Prop where
 e:(E.length:Int)=c.U
 v:(V.length:Int)=c.U
 i:I.length=c.ay.length
 w:W.length=c.aa.length
 t:T.length=c.aa.length
theorem KE.fit {c:an} {E:List Int} {V I W:List Bool} {T:List Int} (h:KE c E V I W T):Fit c ⟨E,V,I,W,T⟩:=⟨h.e,h.v,h.i,h.w,h.t⟩
theorem KE.w' {c:an} {E:List Int} {V I W:List Bool} {T:List Int} (h:KE c E V I W T) {W':List Bool} (e:W'.length=W.length):KE c E V I W' T:=⟨h.e,h.v,h.i,by rw [e];exact h.w,h.t⟩
theorem KE.zq {c:an} {E:List Int} {V I W:List Bool} {T:List Int} (h:KE c E V I W T):((zq E I W).length:Int)=fl c+(c.aa.length:Int):=by
 have:=h.e;have:=h.i;have:=h.w;rw [BQ];unfold fl;omega
theorem IE {c:an} (hz:cG c) (hg:Gts c) {E T:List Int} {V I W:List Bool} (hs:KE c E V I W T):
 iter (fun kZ:Int×(List Bool)×(List Int)×(List Bool)×(List Bool)×(List Bool)×(List Int)=>((bif (decide (kZ.1 < (c.aa.length:Int))) then (idx c.aa kZ.1).bind fun Qr=>((bif (Qr.Kind==0) then (JH (⟨Qr.On.Op,Qr.On.Index,Qr.On.au⟩:ai) kZ.2.1).bind fun UC=>(pK c).bind fun KP=>(idx kZ.2.2.2.1 kZ.1).bind fun _=>(idx kZ.2.2.2.1 kZ.1).bind fun v30=>(idx kZ.2.1 (aE .i64 KP kZ.1)).bind fun _=>(idx kZ.2.1 (aE .i64 KP kZ.1)).bind fun v31=>some ((kZ.2.1.set (aE .i64 KP kZ.1).toNat UC.1),kZ.2.2.1,(kZ.2.2.2.1.set kZ.1.toNat UC.1),kZ.2.2.2.2) else some kZ.2):Option ((List Bool)×(List Int)×(List Bool)×(List Bool)×(List Bool)×(List Int))).bind fun w27=>some (.inl ((aE .i64 kZ.1 1),w27)) else some (.inr kZ.2.2)):Option ((Int×(List Bool)×(List Int)×(List Bool)×(List Bool)×(List Bool)×(List Int))⊕((List Int)×(List Bool)×(List Bool)×(List Bool)×(List Int))))) (0,zq E I W,T,W,I,V,E)=some (T,gW c E I c.aa.length W,I,V,E):=by
 have h1:=hz.a1;have h6:=hz.a6;have hi:=hz.i;have P8:=hz.s;have e1:=hs.e;have e2:=hs.i;have e3:=hs.w;rw [aT (s0:=((0:Int),zq E I W,T,W,I,V,E)) (fun k:Nat=>((k:Int),zq E I (gW c E I k W),T,gW c E I k W,I,V,E)) c.aa.length (show _ < 2 ^ 64 by omega) (T,gW c E I c.aa.length W,I,V,E) rfl (fun k hk=>by
  have hl:=pZ c E I k W;have hs':=hs.w' hl;have hL:=hs'.zq;have zm:=BQ E I (gW c E I k W);dsimp only;rw [bw (show ((k:Nat):Int) < (c.aa.length:Int) by omega),cond_true,ax hk,aq (by omega),ID hk];dsimp only [Option.bind];by_cases h0:c.aa[k].Kind=0
  ·rw [if_pos h0,show (c.aa[k].Kind==0)=true from by rw [h0];rfl,cond_true,eta,OI (by rw [hL];exact hg k hk h0) (by omega),hz.pK];have hf:fl c=((2*E.length+I.length:Nat):Int):=by unfold fl;omega
   dsimp only;rw [ax (show k < (gW c E I k W).length by omega),hf,bA (by omega) (by omega),show ((2*E.length+I.length:Nat):Int)+(k:Int)=((2*E.length+I.length+k:Nat):Int) by omega,ax (show 2*E.length+I.length+k < (zq E I (gW c E I k W)).length by omega)];dsimp only;rw [zaw,zaw,R4]
  ·rw [if_neg h0,show (c.aa[k].Kind==0)=false from beq_eq_false_iff_ne.2 h0,cond_false]) (by
  dsimp only;rw [bg (by omega),cond_false])]
theorem BR {R:Type} {c:an} (hz:cG c) (hg:Gts c) {E T:List Int} {V I W:List Bool} (hs:KE c E V I W T) (r:R):
 iter (fun mh:Int×(List Int)×(List Bool)×(List Bool)×(List Bool)×(List Int)×R=>((bif (decide (mh.1 < (c.aa.length:Int))) then (idx c.aa mh.1).bind fun Jz=>((bif (Jz.Kind==0) then (idx c.aa mh.1).bind fun v20=>(XW c (⟨mh.2.2.2.2.2.1,mh.2.2.2.2.1,mh.2.2.2.1,mh.2.2.1,mh.2.1⟩:bM)).bind fun Ct=>(ia Ct).bind fun _=>(Lg (⟨v20.On.Op,v20.On.Index,v20.On.au⟩:ai) Ct).bind fun KQ=>(idx mh.2.2.1 mh.1).bind fun _=>(idx mh.2.2.1 mh.1).bind fun YE=>some (mh.2.1,(mh.2.2.1.set mh.1.toNat KQ),mh.2.2.2) else some mh.2):Option ((List Int)×(List Bool)×(List Bool)×(List Bool)×(List Int)×R)).bind fun KC=>some (.inl ((aE .i64 mh.1 1),KC)) else some (.inr mh.2)):Option ((Int×(List Int)×(List Bool)×(List Bool)×(List Bool)×(List Int)×R)⊕((List Int)×(List Bool)×(List Bool)×(List Bool)×(List Int)×R)))) (0,T,W,I,V,E,r)=some (T,gW c E I c.aa.length W,I,V,E,r):=by
 have h1:=hz.a1;have h6:=hz.a6;have hi:=hz.i;have P8:=hz.s;have e1:=hs.e;have e2:=hs.i;have e3:=hs.w;rw [aT (s0:=((0:Int),T,W,I,V,E,r)) (fun k:Nat=>((k:Int),T,gW c E I k W,I,V,E,r)) c.aa.length (show _ < 2 ^ 64 by omega) (T,gW c E I c.aa.length W,I,V,E,r) rfl (fun k hk=>by
  have hl:=pZ c E I k W;have hs':=hs.w' hl;have hL:=hs'.zq;have zm:=BQ E I (gW c E I k W);dsimp only;rw [bw (show ((k:Nat):Int) < (c.aa.length:Int) by omega),cond_true,ax hk,aq (by omega),ID hk];dsimp only [Option.bind];by_cases h0:c.aa[k].Kind=0
  ·rw [if_pos h0,show (c.aa[k].Kind==0)=true from by rw [h0];rfl,cond_true,V9 hz hs'.fit];have hv:vals ⟨E,V,I,gW c E I k W,T⟩=zq E I (gW c E I k W):=rfl;rw [hv];have hne:ia (zq E I (gW c E I k W))=some ():=by
    cases hq:zq E I (gW c E I k W) with
    | nil=>rw [hq] at zm;simp at zm;omega
    | cons a l=>rfl
   dsimp only;rw [hne];dsimp only;rw [eta,OJ (by rw [hL];exact hg k hk h0)];dsimp only;rw [ax (show k < (gW c E I k W).length by omega)];dsimp only;rw [zaw]
  ·rw [if_neg h0,show (c.aa[k].Kind==0)=false from beq_eq_false_iff_ne.2 h0,cond_false]) (by
  dsimp only;rw [bg (by omega),cond_false])]
theorem IF {E T:List Int} {V I W:List Bool} (n:Nat) (hn:E.length=n) (h6:n<=6):
 iter (fun AW:Int×(List Bool)×(List Int)×(List Bool)×(List Bool)×(List Bool)×(List Int)=>((bif (decide (AW.1 < (n:Int))) then (idx AW.2.2.2.2.2.2 AW.1).bind fun _=>(idx AW.2.2.2.2.2.2 AW.1).bind fun v20=>(bX 1 AW.2.1 ([(v20==0),(v20==2)]:List Bool)).bind fun l21=>some (.inl ((aE .i64 AW.1 1),l21,AW.2.2)) else some (.inr AW.2)):Option ((Int×(List Bool)×(List Int)×(List Bool)×(List Bool)×(List Bool)×(List Int))⊕((List Bool)×(List Int)×(List Bool)×(List Bool)×(List Bool)×(List Int))))) (0,([]:List Bool),T,W,I,V,E)=some ((E.flatMap fun v=>[v==0,v==2]),T,W,I,V,E):=by
 subst hn;rw [aT (s0:=((0:Int),([]:List Bool),T,W,I,V,E)) (fun k:Nat=>((k:Int),((E.take k).flatMap fun v=>[v==0,v==2]),T,W,I,V,E)) E.length (show _ < 2 ^ 64 by omega) ((E.flatMap fun v=>[v==0,v==2]),T,W,I,V,E) (by simp) (fun k hk=>by
  have e:=iM (E.take k);rw [zbc] at e;dsimp only;rw [bw (by omega),cond_true,ax hk];dsimp only [Option.bind];rw [aM (by rw [e];simp;omega) (by rw [e];simp;omega),aq (by omega),zS _ _ _ hk]) (by
  dsimp only;rw [bg (by omega),cond_false,zbr])]
def AX (c:an):List Bool:=c.aa.map (·.Init)
def Bb (c:an) (k:Nat):List Bool:=(AX c).take k++List.replicate (c.aa.length - k) false
theorem OL {c:an} {k:Nat} (h:k < c.aa.length):(Bb c k).set k c.aa[k].Init=Bb c (k+1):=by
 have hl:((AX c).take k).length=k:=by rw [zbc];unfold AX;rw [zaa];omega
 unfold Bb;rw [List.set_append_right _ _ (by omega),hl,zbl,show c.aa.length - k=(c.aa.length - (k+1))+1 by omega,zbG,zbh,zb8];unfold AX;rw [zav,za1 h,zaH];rfl
theorem OM {c:an} {k:Nat} (h:k<=c.aa.length):(Bb c k).length=c.aa.length:=by
 unfold Bb AX;rw [za8,zbc,zaa,zap];omega
theorem ON (c:an):Bb c c.aa.length=AX c:=by
 unfold Bb;rw [zbl,List.replicate_zero,zbm,zah (by unfold AX;rw [zaa];exact za7 _)]
theorem IG {R ρ:Type} {c:an} (P8:c.aa.length<=64) (T:List Int) (r:R) (f:(List Int)×(List Bool)×R->ρ) {body:Int×(List Int)×(List Bool)×R->Option ((Int×(List Int)×(List Bool)×R)⊕ρ)}
 (hb:∀ s9,body s9=(bif (decide (s9.1 < (c.aa.length:Int))) then (idx c.aa s9.1).bind fun v11=>(idx s9.2.2.1 s9.1).bind fun _=>(idx s9.2.2.1 s9.1).bind fun og=>some (.inl ((aE .i64 s9.1 1),s9.2.1,(s9.2.2.1.set s9.1.toNat v11.Init),s9.2.2.2)) else some (.inr (f s9.2)))):
 iter body (0,T,List.replicate c.aa.length false,r)=some (f (T,AX c,r)):=by
 rw [aT (s0:=((0:Int),T,List.replicate c.aa.length false,r)) (fun k:Nat=>((k:Int),T,Bb c k,r)) c.aa.length (show _ < 2 ^ 64 by omega) (f (T,AX c,r)) rfl (fun k hk=>by
  rw [hb];dsimp only;rw [bw (show ((k:Nat):Int) < (c.aa.length:Int) by omega),cond_true,ax hk,ax (show k < (Bb c k).length by rw [OM (by omega)];exact hk),aq (by omega)];dsimp only [Option.bind];rw [zaw,OL hk]) (by
  rw [hb];dsimp only;rw [bg (by omega),cond_false,ON])]
theorem ot {l:List Bool} (h0:l≠[]) (h:l.length<=1000):Qo l=some l/\ia l=some ():=by
 match l,h0,h with
 | a::l,_,h=>
  refine ⟨?_,rfl⟩;unfold Qo;rw [show ia (a::l)=some () from rfl,za,show (false !=false)=false from rfl,cond_false,aM (by simp at h ⊢;omega) (by simp at h ⊢;omega)];rfl
theorem vq {l:List Int} (h0:l≠[]) (h:l.length<=1000):FI l=some l/\ia l=some ():=by
 match l,h0,h with
 | a::l,_,h=>
  refine ⟨?_,rfl⟩;unfold FI;rw [show ia (a::l)=some () from rfl,za,show (false !=false)=false from rfl,cond_false,aM (by simp at h ⊢;omega) (by simp at h ⊢;omega)];rfl
end ck
end
section
namespace ck
open Go Go.Pl
def eV (e:List Bool):Nat->List Bool->List Bool
 | 0,V=>V
 | k+1,V=>match e[k]? with
  | some b=>(eV e k V).set k b
  | none=>eV e k V
def eE (e:List Bool):Nat->List Int->List Int
 | 0,E=>E
 | k+1,E=>match e[k]? with
  | some b=>if b then (eE e k E).set k 2 else eE e k E
  | none=>eE e k E
theorem wI (e:List Bool):∀ (k:Nat) (V:List Bool),(eV e k V).length=V.length
 | 0,_=>rfl
 | k+1,V=>by
  rw [eV];split
  ·rw [zbb,wI]
  ·exact wI e k V
theorem sV (e:List Bool):∀ (k:Nat) (E:List Int),(eE e k E).length=E.length
 | 0,_=>rfl
 | k+1,E=>by
  rw [eE];split
  ·split
   ·rw [zbb,sV]
   ·exact sV e k E
  ·exact sV e k E
theorem BA {e:List Bool} {E:List Int} (h:∀ v∈E,0<=v/\v < 4):∀ k,∀ v∈eE e k E,0<=v/\v < 4
 | 0=>h
 | k+1=>fun v hv=>by
  rw [eE] at hv;split at hv
  ·split at hv
   ·rcases List.mem_or_eq_of_mem_set hv with hv | hv
    ·exact BA h k v hv
    ·omega
   ·exact BA h k v hv
  ·exact BA h k v hv
theorem I4 {e:List Bool} {k:Nat} (h:k < e.length) (V:List Bool):eV e (k+1) V=(eV e k V).set k e[k]:=by rw [eV,za1 h]
theorem I5 {e:List Bool} {k:Nat} (h:k < e.length) (E:List Int):eE e (k+1) E=if e[k] then (eE e k E).set k 2 else eE e k E:=by rw [eE,za1 h]
theorem SA {e V:List Bool} {E:List Int} (T:List Int) (W I:List Bool) (h6:e.length<=6) (hv:V.length=e.length) (hE:E.length=e.length):
 iter (fun gb:Int×(List Int)×(List Bool)×(List Bool)×(List Bool)×(List Int)=>((bif (decide (gb.1 < (e.length:Int))) then (idx e gb.1).bind fun KU=>(idx gb.2.2.2.2.1 gb.1).bind fun _=>(idx gb.2.2.2.2.1 gb.1).bind fun YS=>((bif KU then (idx gb.2.2.2.2.2 gb.1).bind fun _=>(idx gb.2.2.2.2.2 gb.1).bind fun v38=>some (gb.2.1,gb.2.2.1,gb.2.2.2.1,(gb.2.2.2.2.1.set gb.1.toNat KU),(gb.2.2.2.2.2.set gb.1.toNat 2)) else some (gb.2.1,gb.2.2.1,gb.2.2.2.1,(gb.2.2.2.2.1.set gb.1.toNat KU),gb.2.2.2.2.2)):Option ((List Int)×(List Bool)×(List Bool)×(List Bool)×(List Int))).bind fun w37=>some (.inl ((aE .i64 gb.1 1),w37)) else some (.inr gb.2)):Option ((Int×(List Int)×(List Bool)×(List Bool)×(List Bool)×(List Int))⊕((List Int)×(List Bool)×(List Bool)×(List Bool)×(List Int))))) (0,T,W,I,V,E)=some (T,W,I,eV e e.length V,eE e e.length E):=by
 rw [aT (s0:=((0:Int),T,W,I,V,E)) (fun k:Nat=>((k:Int),T,W,I,eV e k V,eE e k E)) e.length (show _ < 2 ^ 64 by omega) (T,W,I,eV e e.length V,eE e e.length E) rfl (fun k hk=>by
  have l1:=wI e k V;have l2:=sV e k E;dsimp only;rw [bw (show ((k:Nat):Int) < (e.length:Int) by omega),cond_true,ax hk,ax (show k < (eV e k V).length by omega),ax (show k < (eE e k E).length by omega),aq (by omega),I4 hk,I5 hk];dsimp only [Option.bind];rw [zaw]
  cases e[k]<;>rfl) (by dsimp only;rw [bg (by omega),cond_false])]
theorem SB {R:Type} {e V:List Bool} {E:List Int} (T:List Int) (W I:List Bool) (r:R) (h6:e.length<=6) (hv:V.length=e.length) (hE:E.length=e.length):
 iter (fun hJ:Int×(List Int)×(List Bool)×(List Bool)×(List Bool)×(List Int)×R=>((bif (decide (hJ.1 < (e.length:Int))) then (idx e hJ.1).bind fun YT=>(idx hJ.2.2.2.2.1 hJ.1).bind fun _=>(idx hJ.2.2.2.2.1 hJ.1).bind fun UC=>(idx e hJ.1).bind fun KP=>((bif KP then (idx hJ.2.2.2.2.2.1 hJ.1).bind fun _=>(idx hJ.2.2.2.2.2.1 hJ.1).bind fun v31=>some (hJ.2.1,hJ.2.2.1,hJ.2.2.2.1,(hJ.2.2.2.2.1.set hJ.1.toNat YT),(hJ.2.2.2.2.2.1.set hJ.1.toNat 2),hJ.2.2.2.2.2.2) else some (hJ.2.1,hJ.2.2.1,hJ.2.2.2.1,(hJ.2.2.2.2.1.set hJ.1.toNat YT),hJ.2.2.2.2.2)):Option ((List Int)×(List Bool)×(List Bool)×(List Bool)×(List Int)×R)).bind fun w30=>some (.inl ((aE .i64 hJ.1 1),w30)) else some (.inr hJ.2)):Option ((Int×(List Int)×(List Bool)×(List Bool)×(List Bool)×(List Int)×R)⊕((List Int)×(List Bool)×(List Bool)×(List Bool)×(List Int)×R)))) (0,T,W,I,V,E,r)=some (T,W,I,eV e e.length V,eE e e.length E,r):=by
 rw [aT (s0:=((0:Int),T,W,I,V,E,r)) (fun k:Nat=>((k:Int),T,W,I,eV e k V,eE e k E,r)) e.length (show _ < 2 ^ 64 by omega) (T,W,I,eV e e.length V,eE e e.length E,r) rfl (fun k hk=>by
  have l1:=wI e k V;have l2:=sV e k E;dsimp only;rw [bw (show ((k:Nat):Int) < (e.length:Int) by omega),cond_true,ax hk,ax (show k < (eV e k V).length by omega),ax (show k < (eE e k E).length by omega),aq (by omega),I4 hk,I5 hk];dsimp only [Option.bind];rw [zaw]
  cases e[k]<;>rfl) (by dsimp only;rw [bg (by omega),cond_false])]
def mW (P:List Int) (f q:Int):Nat->List Bool->List Bool
 | 0,W=>W
 | i+1,W=>match P[i]? with
  | some m=>(mW P f q i W).set (m - f).toNat ((i:Int)==q)
  | none=>mW P f q i W
theorem Bz (P:List Int) (f q:Int):∀ (k:Nat) (W:List Bool),(mW P f q k W).length=W.length
 | 0,_=>rfl
 | k+1,W=>by
  rw [mW];split
  ·rw [zbb,Bz]
  ·exact Bz P f q k W
theorem B3 {P:List Int} {f q:Int} {W:List Bool} {j n:Nat} (hj:n<=j) (hP:∀ (i:Nat) (h:i < P.length),f<=P[i]/\P[i] < f+(n:Int)):∀ k,(mW P f q k W)[j]?=W[j]?
 | 0=>rfl
 | k+1=>by
  rw [mW];split
  ·rename_i m hm;obtain ⟨h1,h2⟩:=zab.1 hm;have:=hP k h1;rw [za6 (by omega),B3 hj hP k]
  ·exact B3 hj hP k
theorem M8 {R:Type} {P:List Int} {f q:Int} {W:List Bool} (T:List Int) (r:R) (n:Nat) (afi:P.length<=64) (hf:0<=f/\f<=13) (hW:n<=W.length/\W.length<=64) (hP:∀ (i:Nat) (h:i < P.length),f<=P[i]/\P[i] < f+(n:Int)):
 iter (fun yS:Int×(List Int)×(List Bool)×R=>((bif (decide (yS.1 < (P.length:Int))) then (idx P yS.1).bind fun KV=>(idx yS.2.2.1 (ct .i64 KV f)).bind fun _=>(idx yS.2.2.1 (ct .i64 KV f)).bind fun v44=>some (.inl ((aE .i64 yS.1 1),yS.2.1,(yS.2.2.1.set (ct .i64 KV f).toNat (yS.1==q)),yS.2.2.2)) else some (.inr yS.2)):Option ((Int×(List Int)×(List Bool)×R)⊕((List Int)×(List Bool)×R)))) (0,T,W,r)=some (T,mW P f q P.length W,r):=by
 rw [aT (s0:=((0:Int),T,W,r)) (fun k:Nat=>((k:Int),T,mW P f q k W,r)) P.length (show _ < 2 ^ 64 by omega) (T,mW P f q P.length W,r) rfl (fun k hk=>by
  have l1:=Bz P f q k W;have hp:=hP k hk;dsimp only;rw [bw (show ((k:Nat):Int) < (P.length:Int) by omega),cond_true,ax hk,aq (by omega)];dsimp only [Option.bind];rw [dI (by omega) (by omega)];obtain ⟨q1,q2⟩:=kL (l:=mW P f q k W) (i:=P[k] - f) (by omega) (by omega);rw [q2];dsimp only;rw [mW,za1 hk]) (by
  dsimp only;rw [bg (by omega),cond_false])]
theorem M9 {s:af} (h:Rt s) (hz:cG (cw s)) (hg:Gts (cw s)) {E T:List Int} {V I W:List Bool} (hs:KE (cw s) E V I W T) (hf:CO (cw s) ⟨E,V,I,W,T⟩=some 0):
 m54 (cw s) ⟨E,V,I,W,T⟩=some (⟨E,V,I,gW (cw s) E I (cw s).aa.length W,T⟩,0):=by
 have h1:=h.a1;have h6:=h.a6;have P8:=hz.s;have e1:(E.length:Int)=s.U:=hs.e;have e2:(V.length:Int)=s.U:=hs.v;have e3:I.length=1:=hs.i;have e4:=hs.w;have e5:=hs.t;have hN:0 < (cw s).aa.length:=by have:=kG h.toGood;omega
 have nz:∀ {α:Type} {l:List α},0 < l.length->l≠[]:=fun h e=>by rw [e] at h;cases h
 obtain ⟨c1,c2⟩:=vq (l:=E) (nz (by omega)) (by omega);obtain ⟨c3,c4⟩:=ot (l:=V) (nz (by omega)) (by omega);obtain ⟨c5,c6⟩:=ot (l:=I) (nz (by omega)) (by omega);obtain ⟨c7,c8⟩:=ot (l:=W) (nz (by omega)) (by omega);obtain ⟨c9,Yt⟩:=vq (l:=T) (nz (by omega)) (by omega);have e:=iM E;unfold m54;rw [GU h hz hf,za,show ((0:Int) !=0)=false from rfl,cond_false];simp only [c1,c2,c3,c4,c5,c6,c7,c8,c9,Yt,za];rw [IF E.length rfl (by omega),za];dsimp only;rw [aM (by omega) (by omega),za,aM (by rw [za8];omega) (by rw [za8];omega),za];have hl:(E.flatMap fun v=>[v==0,v==2])++I++W=zq E I W:=rfl;rw [hl,IE hz hg hs];rfl
end ck
end
