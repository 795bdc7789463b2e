/- Parts of my machine and its laws, joined: P33h P33i P33b P33j P33k P33l P33m P33n P34a P34b. No condition. -/
import Derived.Test.YtafgdbaekppjcaaGreatDoorAmP1
import Derived.KernelRfl
import Derived.Test.YtafgdbaekppjcaaGreatDoorG33M
set_option linter.unusedSectionVars false
set_option linter.unusedVariables false
set_option linter.unusedSimpArgs false
section
namespace cQ
open Go Go.Pl
set_option linter.unusedVariables false
set_option linter.unusedSimpArgs false
def eB (n:Int):ah:=⟨1,n,[]⟩
def yF (x:bS):ah:=eB (2*x.an+if x.Out then 1 else 0)
def Af (l:List bS) (k:Nat):List ah:=(l.take k).map yF
theorem u9 {l:List bS} {k:Nat} (h:k < l.length):Af l (k+1)=Af l k++[yF l[k]]:=by
 unfold Af;rw [List.take_add_one,List.getElem?_eq_getElem h,List.map_append];rfl
theorem zA (l:List bS):Af l l.length=l.map yF:=by unfold Af;rw [List.take_length]
theorem kD (n:Int):sN n=some (eB n):=rfl
theorem kE (n:Int):wI n=some (eB n):=rfl
theorem EZ (x:bN) (h:fY x):G9 x=some (x.aa.map yF):=by
 have hle:=h.le;unfold G9;rw [bh (fun k:Nat=>((k:Int),Af x.aa k)) x.aa.length ?hn (x.aa.map yF) ?h0 ?h ?he]
 case hn=>unfold fuel;omega
 case h0=>simp [Af]
 case he=>
  try dsimp only
  rw [aJ (bF (by omega)),zA]
 case h=>
  intro k hk;try dsimp only
  obtain ⟨h1,h2⟩:=h.act k hk;have hl:(Af x.aa k).length=k:=by simp [Af];omega
  have e0:dw .i64 2 x.aa[k].an=2*x.aa[k].an:=by unfold dw;exact wrap_i64 (by omega) (by omega)
  rw [aM (bO (by omega)),aK hk];simp only [Option.bind_some,kE,e0];rw [u9 hk,ay (by omega)]
  cases ho:x.aa[k].Out with
  | true=>
   simp only [cond_true,Option.bind_some];rw [bH (by omega) (by omega),aU (by simp [hl];omega) (by simp [hl];omega)];simp [yF,ho,eB]
  | false=>
   simp only [cond_false,Option.bind_some];rw [aU (by simp [hl];omega) (by simp [hl];omega)];simp [yF,ho,eB]
 rfl
theorem qf (a:Int) (l:List ah):yN a l=sO a l:=by
 unfold yN sO;rfl
end cQ
end
section
namespace cQ
open Go Go.Pl
set_option linter.unusedVariables false
set_option linter.unusedSimpArgs false
def sU (s:ai) (n:Int) (k:Nat):List ah:=match s.Steps[k]? with
 | some x=>if x.dn=0 then x.aa.map yF else [eB (pA s n k)]
 | none=>[]
theorem zJ {s:ai} {n:Int} {k:Nat} (hk:k < s.Steps.length):idx (kL s n s.Steps.length) (k:Int)=some (pA s n k):=by
 have hlen:(kL s n s.Steps.length).length=s.Steps.length:=by simp [kL]
 rw [aK (by omega)];simp [kL]
theorem zO (s:ai) (n:Int) (hn:0<=n) {k:Nat} (hk:k < s.Steps.length) (h:fY s.Steps[k]):FN ⟨s,kL s n s.Steps.length⟩ k=some (sU s n k):=by
 unfold FN sU;rw [List.getElem?_eq_getElem hk,zJ hk];simp only [Option.bind_some,kE];rw [jT hk hn];by_cases hw:s.Steps[k].dn=0
 ·rw [aJ (by simp [hw]),if_pos hw,aK hk];simp only [Option.bind_some];rw [EZ _ h];rfl
 ·rw [aM (by simpa using hw),if_neg hw];rfl
theorem zN (s:ai) (n f:Int) (m:List Int) (hn:0<=n) {k:Nat} (hk:k < s.Steps.length) (h:fY s.Steps[k]):CS ⟨s,f,m,kL s n s.Steps.length⟩ k=some (sU s n k):=by
 have hle:=h.le;unfold CS sU;rw [List.getElem?_eq_getElem hk,zJ hk];simp only [Option.bind_some,kD];rw [jT hk hn];by_cases hw:s.Steps[k].dn=0
 ·rw [aJ (by simp [hw]),if_pos hw,aK hk];simp only [Option.bind_some];rw [bh (fun i:Nat=>((i:Int),Af s.Steps[k].aa i)) s.Steps[k].aa.length ?hn (s.Steps[k].aa.map yF) ?h0 ?h ?he]
  case hn=>unfold fuel;omega
  case h0=>simp [Af]
  case he=>
   try dsimp only
   rw [aJ (bF (by omega)),zA]
  case h=>
   intro i hi;try dsimp only
   obtain ⟨h1,h2⟩:=h.act i hi;have hl:(Af s.Steps[k].aa i).length=i:=by simp [Af];omega
   have e0:dw .i64 2 s.Steps[k].aa[i].an=2*s.Steps[k].aa[i].an:=by unfold dw;exact wrap_i64 (by omega) (by omega)
   rw [aM (bO (by omega)),aK hi];simp only [Option.bind_some,e0];rw [u9 hi,ay (by omega)]
   cases ho:s.Steps[k].aa[i].Out with
   | true=>
    simp only [cond_true,Option.bind_some];rw [bH (by omega) (by omega),aU (by simp [hl];omega) (by simp [hl];omega)];simp [yF,ho,eB]
   | false=>
    simp only [cond_false,Option.bind_some];rw [aU (by simp [hl];omega) (by simp [hl];omega)];simp [yF,ho,eB]
  rfl
 ·rw [aM (by simpa using hw),if_neg hw];rfl
end cQ
end
section
namespace cQ
open Go Go.Pl
set_option linter.unusedVariables false
def Mg (p:List UInt8) (k:Nat):Bool:=decide (CU p k=(G4 k).bind fun v=>nL p v)&&(CU p k).isSome
set_option maxRecDepth 100000
theorem MX:((List.range 100).all fun k=>Mg [109] k&&Mg [119] k)=true:=by kernel_rfl
theorem y7 {p:List UInt8} (hp:p=[109]\/p=[119]) {k:Nat} (hk:k < 100):∃ t,CU p k=some t/\(G4 k).bind (fun v=>nL p v)=some t:=by
 have h:=MX;rw [List.all_eq_true] at h;have h:=h k (List.mem_range.mpr hk);rw [Bool.and_eq_true] at h;have:Mg p k=true:=by
  rcases hp with rfl | rfl
  ·exact h.1
  ·exact h.2
 unfold Mg at this;rw [Bool.and_eq_true,decide_eq_true_eq] at this;obtain ⟨t,ht⟩:=Option.isSome_iff_exists.mp this.2;exact ⟨t,ht,by rw [<-this.1];exact ht⟩
end cQ
end
section
namespace cQ
open Go Go.Pl
set_option linter.unusedVariables false
set_option linter.unusedSimpArgs false
def nameOf (p:List UInt8) (k:Nat):List UInt8:=(CU p k).getD []
def PE:ah:=⟨0,0,[]⟩
def mq (s:ai) (M:List Int) (k:Nat):List ak:=match s.Steps[k]?,M[k]? with
 | some x,some m=>if x.dn=0 then [] else [⟨nameOf [119] k,2,⟨3,0,eB m::x.aa.map yF⟩,PE,x.dn,false⟩]
 | _,_=>[]
def jY (s:ai) (M:List Int) (k:Nat):List ak:=(List.range k).flatMap (mq s M)
theorem nu {s:ai} {M:List Int} {k:Nat}:jY s M (k+1)=jY s M k++mq s M k:=by
 unfold jY;rw [List.range_succ,List.flatMap_append];simp
theorem Gm (s:ai) (M:List Int) (k:Nat):(mq s M k).length<=1:=by
 unfold mq;split
 ·split<;>simp
 ·simp
theorem mO (s:ai) (M:List Int):∀ k,(jY s M k).length<=k
 | 0=>by simp [jY]
 | k+1=>by
  rw [nu,List.length_append];have:=mO s M k;have:=Gm s M k;omega
theorem Uv (x y:ah) (l:List ah):sO 3 (x::y::l)=some ⟨3,0,x::y::l⟩:=by
 unfold sO;rw [aJ (by simp;omega)]
theorem Sk (s:ai) (n:Int) (M:List Int) (hn:0<=n) (hs:s.Steps.length<=64) (hM:M.length=s.Steps.length) (h:∀ k (h:k < s.Steps.length),fY s.Steps[k]):
 WV ⟨s,kL s n s.Steps.length⟩ M=some (jY s M s.Steps.length):=by
 unfold WV;have hlen:(kL s n s.Steps.length).length=s.Steps.length:=by simp [kL]
 rw [bh (fun k:Nat=>((k:Int),jY s M k)) s.Steps.length ?hn (jY s M s.Steps.length) ?h0 ?h ?he]
 case hn=>unfold fuel;omega
 case h0=>simp [jY]
 case he=>
  try dsimp only
  rw [aJ (bF (by rw [hlen];omega))]
 case h=>
  intro k hk;try dsimp only
  have hc:=mO s M k;have ho:=h k hk;have hle:=ho.le;rw [aM (bO (by rw [hlen];omega)),zJ hk];simp only [Option.bind_some,kE];rw [jT hk hn,nu,ay (by omega)];have e:mq s M k=if s.Steps[k].dn=0 then [] else [⟨nameOf [119] k,2,⟨3,0,eB (M[k]'(by omega))::s.Steps[k].aa.map yF⟩,PE,s.Steps[k].dn,false⟩]:=by
   unfold mq;rw [List.getElem?_eq_getElem hk,List.getElem?_eq_getElem (show k < M.length by omega)]
  rw [e];by_cases hw:s.Steps[k].dn=0
  ·rw [aJ (by simp [hw]),if_pos hw];simp
  ·rw [aM (by simpa using hw),if_neg hw,aK (show k < M.length by omega),aK hk];simp only [Option.bind_some];rw [EZ _ ho];simp only [Option.bind_some,ah.fT];obtain ⟨t,ht,_⟩:=y7 (p:=[119]) (.inr rfl) (show k < 100 by omega);rw [aU (by simp;omega) (by simp;omega),ht];have hnm:nameOf [119] k=t:=by unfold nameOf;rw [ht];rfl
   obtain ⟨y,l,TF⟩:∃ y l,s.Steps[k].aa.map yF=y::l:=by
    cases hq:s.Steps[k].aa with
    | nil=>have:=ho.pos;rw [hq] at this;simp at this
    | cons a l=>exact ⟨_,_,rfl⟩
   simp only [Option.bind_some,List.singleton_append];rw [TF,Uv,hnm];simp only [Option.bind_some,ah.fT];rw [aU (by simp;omega) (by simp;omega)];rfl
 rfl
end cQ
end
section
namespace cQ
open Go Go.Pl
set_option linter.unusedVariables false
set_option linter.unusedSimpArgs false
theorem Nh (s:ai) (f:Int) (M T:List Int) (hs:s.Steps.length<=64) (hM:M.length=s.Steps.length) (h:∀ k (h:k < s.Steps.length),fY s.Steps[k]):
 LZ ⟨s,f,M,T⟩=some (jY s M s.Steps.length):=by
 unfold LZ;rw [bh (fun k:Nat=>((k:Int),jY s M k)) s.Steps.length ?hn (jY s M s.Steps.length) ?h0 ?h ?he]
 case hn=>unfold fuel;omega
 case h0=>simp [jY]
 case he=>
  try dsimp only
  rw [aJ (bF (by omega))]
 case h=>
  intro k hk;try dsimp only
  have hc:=mO s M k;have ho:=h k hk;have hle:=ho.le;have hwt:=ho.wait;rw [aM (bO (by omega)),aK hk];simp only [Option.bind_some,kD];rw [nu,ay (by omega)];have e:mq s M k=if s.Steps[k].dn=0 then [] else [⟨nameOf [119] k,2,⟨3,0,eB (M[k]'(by omega))::s.Steps[k].aa.map yF⟩,PE,s.Steps[k].dn,false⟩]:=by
   unfold mq;rw [List.getElem?_eq_getElem hk,List.getElem?_eq_getElem (show k < M.length by omega)]
  rw [e];by_cases hw:s.Steps[k].dn=0
  ·rw [aJ (by simp;omega),if_pos hw];simp
  ·rw [aM (by simp;omega),if_neg hw,aK (show k < M.length by omega)];simp only [Option.bind_some,ah.fT];rw [bh (fun i:Nat=>((i:Int),jY s M k,[eB (M[k]'(by omega))],Af s.Steps[k].aa i)) s.Steps[k].aa.length ?hn (jY s M k,[eB (M[k]'(by omega))],s.Steps[k].aa.map yF) ?h0 ?h ?he]
   case hn=>unfold fuel;omega
   case h0=>simp [Af]
   case he=>
    try dsimp only
    rw [aJ (bF (by omega)),zA]
   case h=>
    intro i hi;try dsimp only
    obtain ⟨h1,h2⟩:=ho.act i hi;have hl:(Af s.Steps[k].aa i).length=i:=by simp [Af];omega
    have e0:dw .i64 2 s.Steps[k].aa[i].an=2*s.Steps[k].aa[i].an:=by unfold dw;exact wrap_i64 (by omega) (by omega)
    rw [aM (bO (by omega)),aK hi];simp only [Option.bind_some,e0];rw [u9 hi,ay (by omega)]
    cases hx:s.Steps[k].aa[i].Out with
    | true=>
     simp only [cond_true,Option.bind_some];rw [bH (by omega) (by omega),aU (by simp [hl];omega) (by simp [hl];omega)];simp [yF,hx,eB]
    | false=>
     simp only [cond_false,Option.bind_some];rw [aU (by simp [hl];omega) (by simp [hl];omega)];simp [yF,hx,eB]
   simp only [Option.bind_some];obtain ⟨t,ht,W8⟩:=y7 (p:=[119]) (.inr rfl) (show k < 100 by omega);obtain ⟨v,hv,W9⟩:=Option.bind_eq_some_iff.mp W8;rw [aU (by simp;omega) (by simp;omega),hv];simp only [Option.bind_some];rw [W9];have hnm:nameOf [119] k=t:=by unfold nameOf;rw [ht];rfl
   obtain ⟨y,l,TF⟩:∃ y l,s.Steps[k].aa.map yF=y::l:=by
    cases hq:s.Steps[k].aa with
    | nil=>have:=ho.pos;rw [hq] at this;simp at this
    | cons a l=>exact ⟨_,_,rfl⟩
   simp only [Option.bind_some,List.singleton_append];rw [TF,qf,Uv,hnm];simp only [Option.bind_some,ah.fT];rw [aU (by simp;omega) (by simp;omega)];rfl
 rfl
end cQ
end
section
namespace cQ
open Go Go.Pl
set_option linter.unusedVariables false
set_option linter.unusedSimpArgs false
structure Good (s:ai):Prop where
 a1:1<=s.U
 a6:s.U<=6
 n0:0 < s.Steps.length
 n64:s.Steps.length<=64
 step:∀ i (h:i < s.Steps.length),fY s.Steps[i]
theorem vn {s:ai} (h:yG s=0):Good s:=by
 unfold yG at h;split at h
 ·omega
 split at h
 ·omega
 split at h
 ·omega
 rename_i h1 h2 h3;split at h
 ·rename_i r hr;exfalso;subst h;unfold first at hr
  obtain ⟨k,_,hk⟩:=List.exists_of_findSome?_eq_some hr;unfold nR at hk;split at hk
  ·simp at hk
  ·split at hk
   ·rename_i h;injection hk with hk;exact h hk
   ·simp at hk
 ·rename_i hf;rw [bR] at hf;exact ⟨by omega,by omega,by omega,by omega,fun i hi=>(rO hi (hf i hi)).1.ok⟩
def sev (a:Int):List ah->ah
 | [x]=>x
 | l=>⟨a,0,l⟩
theorem mL (a:Int) (l:List ah):sO a l=some (sev a l):=by
 unfold sO;match l with
 | []=>rfl
 | [x]=>show some (⟨x.Op,x.Index,x.au⟩:ah)=_;rw [ah.fT];rfl
 | x::y::l=>rw [aJ (by simp;omega)];rfl
def tb (s:ai):Int:=fst s+(s.Steps.length:Int)
def iO (s:ai):List Int:=if s.Steps.length=2 then [fst s+1,fst s] else mods (fst s) s.Steps.length
def oH (s:ai) (k:Nat):ak:=
 ⟨nameOf [109] k,1,sev 3 (eB (fst s+((k+s.Steps.length - 1) % s.Steps.length:Nat))::sU s (tb s) ((k+s.Steps.length - 1) % s.Steps.length)++if k=0 then [eB (2*s.U)] else []),
  eB (fst s+((k+1) % s.Steps.length:Nat)),0,(k:Int)==(s.Steps.length:Int) - 1⟩
def eg (s:ai) (k:Nat):List ak:=(List.range k).map (oH s)
theorem qC {s:ai} {k:Nat}:eg s (k+1)=eg s k++[oH s k]:=by
 unfold eg;rw [List.range_succ,List.map_append];rfl
def chain (s:ai):List ak:=if s.Steps.length=2 then
 [⟨[109,49],1,sev 3 (sU s (tb s) 0),sev 3 (sU s (tb s) 1++[eB (2*s.U)]),0,true⟩,⟨[109,48],0,⟨2,0,[eB (fst s)]⟩,PE,0,false⟩]
 else eg s s.Steps.length
theorem N1 {s:ai} (h:Good s) {n:Int} {k:Nat} (hk:k < s.Steps.length):∃ y l,sU s n k=y::l:=by
 unfold sU;rw [List.getElem?_eq_getElem hk];dsimp only;split
 ·cases hq:s.Steps[k].aa with
  | nil=>have:=(h.step k hk).pos;rw [hq] at this;simp at this
  | cons a l=>exact ⟨_,_,rfl⟩
 ·exact ⟨_,_,rfl⟩
theorem qw {s:ai} (h:Good s) {n:Int} {k:Nat} (hk:k < s.Steps.length):(sU s n k).length<=6:=by
 unfold sU;rw [List.getElem?_eq_getElem hk];dsimp only;split
 ·simpa using (h.step k hk).le
 ·simp
theorem Wm {s:ai} (h:Good s):To s=some ⟨s,fst s,iO s,kL s (tb s) s.Steps.length⟩:=by
 rw [Si s h.n64 h.a1 h.a6 (fun x hx=>by obtain ⟨k,hk,rfl⟩:=List.getElem_of_mem hx;exact (h.step k hk).wait.1)];rfl
theorem Mt {s:ai} (h:Good s):dw .i64 2 s.U=2*s.U:=by
 have:=h.a1;have:=h.a6;exact iA (by omega) (by omega)
theorem Fp {k n:Nat} (hk:k < n) (hn:n<=64):og (dF .i64 (aO .i64 (k:Int) (n:Int)) 1) (n:Int)=some (((k+n - 1) % n:Nat):Int):=by
 rw [bH (by omega) (by omega),ef (by omega) (by omega),show (k:Int)+(n:Int) - 1=((k+n - 1:Nat):Int) by omega];unfold og;rw [if_neg (by omega),Int.ofNat_tmod]
theorem Fq {k n:Nat} (hk:k < n) (hn:n<=64):og (aO .i64 (k:Int) 1) (n:Int)=some (((k+1) % n:Nat):Int):=by
 rw [ay (by omega)];unfold og;rw [if_neg (by omega),Int.ofNat_tmod]
theorem Eu {s:ai} (h:Good s):0<=tb s:=by
 have:=mE h.a1 h.a6;unfold tb;omega
theorem N2 {s:ai} (h:Good s):LY ⟨s,fst s,iO s,kL s (tb s) s.Steps.length⟩=some (chain s):=by
 have hn0:=h.n0;have hn:=h.n64;have hf:=mE h.a1 h.a6;have htb:=Eu h;unfold LY LX;dsimp only;simp only [Mt h,kD,Option.bind_some,qf,mL];by_cases h2:s.Steps.length=2
 ·rw [aM (by simp [h2])];rw [show (0:Int)=((0:Nat):Int) from rfl,zN s (tb s) (fst s) (iO s) htb (k:=0) (by omega) (h.step 0 (by omega))];rw [show (1:Int)=((1:Nat):Int) from rfl,zN s (tb s) (fst s) (iO s) htb (k:=1) (by omega) (h.step 1 (by omega))];simp only [Option.bind_some];obtain ⟨y,l,e⟩:=N1 h (n:=tb s) (k:=1) (by omega);have hl:=qw h (n:=tb s) (k:=1) (by omega);have en:CN (sU s (tb s) 1)=some ():=by rw [e];rfl
  rw [en];simp only [Option.bind_some,ah.fT];rw [aU (by simp;omega) (by simp;omega)];have ei:idx (iO s) ((1:Nat):Int)=some (fst s):=by unfold iO;rw [if_pos h2];rfl
  rw [ei];simp only [Option.bind_some,ah.fT];unfold chain;rw [if_pos h2];rfl
 ·rw [aJ (by simp;omega)];have hp:iO s=mods (fst s) s.Steps.length:=by unfold iO;rw [if_neg h2]
  rw [bh (fun k:Nat=>((k:Int),eg s k)) s.Steps.length ?hn (eg s s.Steps.length) ?h0 ?h ?he]
  case hn=>unfold fuel;omega
  case h0=>simp [eg]
  case he=>
   try dsimp only
   rw [aJ (bF (by omega))]
  case h=>
   intro k hk;try dsimp only
   have LB:(k+s.Steps.length - 1) % s.Steps.length < s.Steps.length:=Nat.mod_lt _ hn0;have TU:(k+1) % s.Steps.length < s.Steps.length:=Nat.mod_lt _ hn0;have mi:∀ j,j < s.Steps.length->idx (iO s) (j:Int)=some (fst s+(j:Int)):=by
    intro j hj;rw [hp,aK (show j < (mods (fst s) s.Steps.length).length by simp [mods];exact hj)];simp [mods]
   rw [aM (bO (by omega)),Fp hk hn,Fq hk hn];simp only [Option.bind_some];rw [mi _ LB];simp only [Option.bind_some];rw [zN s (tb s) (fst s) (iO s) htb LB (h.step _ LB)];have hl:=qw h (n:=tb s) LB;simp only [Option.bind_some,ah.fT];rw [aU (by simp;omega) (by simp;omega)];simp only [Option.bind_some,ah.fT];obtain ⟨t,ht,W8⟩:=y7 (p:=[109]) (.inl rfl) (show k < 100 by omega);obtain ⟨v,hv,W9⟩:=Option.bind_eq_some_iff.mp W8;have hnm:nameOf [109] k=t:=by unfold nameOf;rw [ht];rfl
   have hml:(eg s k).length=k:=by simp [eg]
   rw [qC];have hsub:dF .i64 (s.Steps.length:Int) 1=(s.Steps.length:Int) - 1:=ef (by omega) (by omega);by_cases Cw:k=0
   ·rw [aM (by simp [Cw]),aU (by simp;omega) (by simp;omega)];simp only [Option.bind_some,ah.fT];rw [hv];simp only [Option.bind_some];rw [W9,mi _ TU];simp only [Option.bind_some,ah.fT];rw [aU (by simp [hml];omega) (by simp [hml];omega)];simp only [Option.bind_some,Bool.not_true,cond_false];rw [hsub,ay (by omega)];unfold oH;rw [if_pos Cw,hnm];rfl
   ·rw [aJ (by simp;omega)];simp only [Option.bind_some,ah.fT];rw [hv];simp only [Option.bind_some];rw [W9,mi _ TU];simp only [Option.bind_some,ah.fT];rw [aU (by simp [hml];omega) (by simp [hml];omega)];simp only [Option.bind_some,Bool.not_true,cond_false];rw [hsub,ay (by omega)];unfold oH;rw [if_neg Cw,hnm];simp
  unfold chain;rw [if_neg h2];rfl
theorem vo {s:ai} (h:Good s):Oo s=some ⟨s,kL s (tb s) s.Steps.length⟩:=Sz s h.n64 h.a1 h.a6
theorem vp {s:ai} (h:Good s):Oq s=some (iO s):=SA s h.n64 h.a1 h.a6
theorem SB {s:ai} (h:Good s):WU s=some (chain s):=by
 have hn0:=h.n0;have hn:=h.n64;have hf:=mE h.a1 h.a6;have htb:=Eu h;unfold WU Qg;rw [vo h,vp h];simp only [Mt h,kE,Option.bind_some,mL];by_cases h2:s.Steps.length=2
 ·rw [aM (by simp [h2])];rw [show (0:Int)=((0:Nat):Int) from rfl,zO s (tb s) htb (k:=0) (by omega) (h.step 0 (by omega))];rw [show (1:Int)=((1:Nat):Int) from rfl,zO s (tb s) htb (k:=1) (by omega) (h.step 1 (by omega))];simp only [Option.bind_some];have hl:=qw h (n:=tb s) (k:=1) (by omega);rw [aU (by simp;omega) (by simp;omega)];simp only [Option.bind_some,ah.fT,List.nil_append];rw [aU (by simp;omega) (by simp;omega)];have ei:idx (iO s) ((1:Nat):Int)=some (fst s):=by unfold iO;rw [if_pos h2];rfl
  rw [ei];simp only [Option.bind_some,ah.fT];unfold chain;rw [if_pos h2];rfl
 ·rw [aJ (by simp;omega)];have hp:iO s=mods (fst s) s.Steps.length:=by unfold iO;rw [if_neg h2]
  rw [bh (fun k:Nat=>((k:Int),eg s k)) s.Steps.length ?hn (eg s s.Steps.length) ?h0 ?h ?he]
  case hn=>unfold fuel;omega
  case h0=>simp [eg]
  case he=>
   try dsimp only
   rw [aJ (bF (by omega))]
  case h=>
   intro k hk;try dsimp only
   have LB:(k+s.Steps.length - 1) % s.Steps.length < s.Steps.length:=Nat.mod_lt _ hn0;have TU:(k+1) % s.Steps.length < s.Steps.length:=Nat.mod_lt _ hn0;have mi:∀ j,j < s.Steps.length->idx (iO s) (j:Int)=some (fst s+(j:Int)):=by
    intro j hj;rw [hp,aK (show j < (mods (fst s) s.Steps.length).length by simp [mods];exact hj)];simp [mods]
   rw [aM (bO (by omega)),Fp hk hn,Fq hk hn];simp only [Option.bind_some];rw [mi _ LB];simp only [Option.bind_some];rw [zO s (tb s) htb LB (h.step _ LB)];have hl:=qw h (n:=tb s) LB;simp only [Option.bind_some,ah.fT];rw [aU (by simp;omega) (by simp;omega)];simp only [Option.bind_some,ah.fT];obtain ⟨t,ht,W8⟩:=y7 (p:=[109]) (.inl rfl) (show k < 100 by omega);have hnm:nameOf [109] k=t:=by unfold nameOf;rw [ht];rfl
   have hml:(eg s k).length=k:=by simp [eg]
   rw [qC];have hsub:dF .i64 (s.Steps.length:Int) 1=(s.Steps.length:Int) - 1:=ef (by omega) (by omega);by_cases Cw:k=0
   ·rw [aM (by simp [Cw]),aU (by simp;omega) (by simp;omega)];simp only [Option.bind_some,ah.fT];rw [ht,mi _ TU];simp only [Option.bind_some,ah.fT];rw [aU (by simp [hml];omega) (by simp [hml];omega)];simp only [Option.bind_some];rw [hsub,ay (by omega)];unfold oH;rw [if_pos Cw,hnm];rfl
   ·rw [aJ (by simp;omega)];simp only [Option.bind_some,ah.fT];rw [ht,mi _ TU];simp only [Option.bind_some,ah.fT];rw [aU (by simp [hml];omega) (by simp [hml];omega)];simp only [Option.bind_some];rw [hsub,ay (by omega)];unfold oH;rw [if_neg Cw,hnm];simp
  unfold chain;rw [if_neg h2];rfl
end cQ
end
section
namespace cQ
open Go Go.Pl
set_option linter.unusedVariables false
set_option linter.unusedSimpArgs false
def hit (a:Int) (o:Bool) (y:bS):Bool:=y.an==a&&y.Out==o
theorem xH (l:List bS) (p:bS->Bool):(match first l.length (fun k=>match l[k]? with | some b=>bif p b then some (k:Int) else none | none=>none) with | none=>decide ((-1:Int)≥0) | some r=>decide (r≥0))=l.any p:=by
 cases hf:first l.length (fun k=>match l[k]? with | some b=>bif p b then some (k:Int) else none | none=>none) with
 | none=>
  rw [bR] at hf;have:(l.any p)=false:=by
   rw [List.any_eq_false];intro b hb;obtain ⟨k,hk,rfl⟩:=List.getElem_of_mem hb;have:=hf k hk;rw [List.getElem?_eq_getElem hk] at this;dsimp only at this;intro hc;rw [hc] at this;simp at this
  rw [this];rfl
 | some r=>
  unfold first at hf
  obtain ⟨k,hk,hr⟩:=List.exists_of_findSome?_eq_some hf;have hk':k < l.length:=by simpa using hk
  rw [List.getElem?_eq_getElem hk'] at hr;dsimp only at hr
  cases hb:p l[k] with
  | false=>rw [hb] at hr;simp at hr
  | true=>
   rw [hb] at hr;simp only [cond_true,Option.some.injEq] at hr;have:l.any p=true:=by
    rw [List.any_eq_true];exact ⟨l[k],List.getElem_mem hk',hb⟩
   rw [this];subst hr;simp
theorem MG (x:bS) (a:Int):L0 x a=some (hit a true x):=by
 unfold L0 hit;cases x.Out<;>simp
theorem MH (x:bS) (a:Int):L3 x a=some (hit a false x):=by
 unfold L3 hit;cases x.Out<;>simp
theorem B4 (l:List bS) (a:Int) (hl:l.length<=6):p9 l a=some (l.any (hit a true)):=by
 unfold p9 uN;rw [bn (fun k:Nat=>(k:Int)) (fun k=>match l[k]? with | some b=>bif hit a true b then some (k:Int) else none | none=>none) l.length ?hn () ?h0 ?h ?he]
 case hn=>unfold fuel;omega
 case h0=>rfl
 case he=>
  intro _;try dsimp only
  rw [aJ (bF (by omega))]
 case h=>
  intro k hk _;try dsimp only
  rw [aM (bO (by omega)),aK hk,List.getElem?_eq_getElem hk];simp only [Option.bind_some,MG];rw [ay (by omega)]
  cases hit a true l[k]<;>rfl
 rw [<-xH l (hit a true)]
 cases first l.length (fun k=>match l[k]? with | some b=>bif hit a true b then some (k:Int) else none | none=>none)<;>rfl
theorem B5 (l:List bS) (a:Int) (hl:l.length<=6):qc l a=some (l.any (hit a false)):=by
 unfold qc uO;rw [bn (fun k:Nat=>(k:Int)) (fun k=>match l[k]? with | some b=>bif hit a false b then some (k:Int) else none | none=>none) l.length ?hn () ?h0 ?h ?he]
 case hn=>unfold fuel;omega
 case h0=>rfl
 case he=>
  intro _;try dsimp only
  rw [aJ (bF (by omega))]
 case h=>
  intro k hk _;try dsimp only
  rw [aM (bO (by omega)),aK hk,List.getElem?_eq_getElem hk];simp only [Option.bind_some,MH];rw [ay (by omega)]
  cases hit a false l[k]<;>rfl
 rw [<-xH l (hit a false)]
 cases first l.length (fun k=>match l[k]? with | some b=>bif hit a false b then some (k:Int) else none | none=>none)<;>rfl
def Ac (s:ai) (M:List Int) (a:Int) (o:Bool):Nat->List ah
 | 0=>[]
 | k+1=>Ac s M a o k++(match s.Steps[k]?,M[k]? with | some x,some m=>if x.aa.any (hit a o) then [eB m] else [] | _,_=>[])
theorem uS {s:ai} {M:List Int} {a:Int} {o:Bool} {k:Nat} (hk:k < s.Steps.length) (hm:k < M.length):Ac s M a o (k+1)=Ac s M a o k++if s.Steps[k].aa.any (hit a o) then [eB M[k]] else []:=by
 rw [Ac,List.getElem?_eq_getElem hk,List.getElem?_eq_getElem hm]
theorem tj (s:ai) (M:List Int) (a:Int) (o:Bool):∀ k,(Ac s M a o k).length<=k
 | 0=>Nat.le_refl _
 | k+1=>by
  have:=tj s M a o k;rw [Ac,List.length_append];split
  ·split<;>simp<;>omega
  ·simp;omega
def Ax (a:Nat) (o:Bool):List UInt8:=[UInt8.ofNat (97+a),if o then 112 else 109]
def fX (s:ai) (M:List Int) (a:Nat) (o:Bool):ak:=⟨Ax a o,0,sev 4 (Ac s M a o s.Steps.length),PE,0,false⟩
def jz (s:ai) (M:List Int) (k:Nat):List ak:=(List.range k).flatMap fun a=>[fX s M a true,fX s M a false]
theorem rE {s:ai} {M:List Int} {k:Nat}:jz s M (k+1)=jz s M k++[fX s M k true,fX s M k false]:=by
 unfold jz;rw [List.range_succ,List.flatMap_append];simp
theorem mK (s:ai) (M:List Int):∀ k,(jz s M k).length=2*k
 | 0=>by simp [jz]
 | k+1=>by rw [rE,List.length_append,mK s M k];simp;omega
theorem B6 (s:ai) (f:Int) (M T:List Int) (nm:List UInt8) (a:Int) (hs:s.Steps.length<=64) (hM:M.length=s.Steps.length) (h:∀ k (h:k < s.Steps.length),fY s.Steps[k]):
 qb ⟨s,f,M,T⟩ nm a=some ⟨nm,0,sev 4 (Ac s M a true s.Steps.length),PE,0,false⟩:=by
 unfold qb;rw [bh (fun k:Nat=>((k:Int),([]:List UInt8),(0:Int),(0:Int),(0:Int),([]:List ah),(0:Int),(0:Int),([]:List ah),(0:Int),false,Ac s M a true k)) s.Steps.length ?hn (([]:List UInt8),(0:Int),(0:Int),(0:Int),([]:List ah),(0:Int),(0:Int),([]:List ah),(0:Int),false,Ac s M a true s.Steps.length) ?h0 ?h ?he]
 case hn=>unfold fuel;omega
 case h0=>rfl
 case he=>
  try dsimp only
  rw [aJ (bF (by omega))]
 case h=>
  intro k hk;try dsimp only
  have hl:=tj s M a true k;rw [aM (bO (by omega)),aK hk];simp only [Option.bind_some];rw [B4 _ a (h k hk).le,uS hk (by omega),ay (by omega)];simp only [Option.bind_some]
  cases s.Steps[k].aa.any (hit a true) with
  | true=>
   simp only [cond_true];rw [aK (show k < M.length by omega)];simp only [Option.bind_some,kD,ah.fT];rw [aU (by simp;omega) (by simp;omega)];rfl
  | false=>simp
 simp only [Option.bind_some,qf,mL,ah.fT];rfl
theorem B7 (s:ai) (f:Int) (M T:List Int) (nm:List UInt8) (a:Int) (hs:s.Steps.length<=64) (hM:M.length=s.Steps.length) (h:∀ k (h:k < s.Steps.length),fY s.Steps[k]):
 qd ⟨s,f,M,T⟩ nm a=some ⟨nm,0,sev 4 (Ac s M a false s.Steps.length),PE,0,false⟩:=by
 unfold qd;rw [bh (fun k:Nat=>((k:Int),([]:List UInt8),(0:Int),(0:Int),(0:Int),([]:List ah),(0:Int),(0:Int),([]:List ah),(0:Int),false,Ac s M a false k)) s.Steps.length ?hn (([]:List UInt8),(0:Int),(0:Int),(0:Int),([]:List ah),(0:Int),(0:Int),([]:List ah),(0:Int),false,Ac s M a false s.Steps.length) ?h0 ?h ?he]
 case hn=>unfold fuel;omega
 case h0=>rfl
 case he=>
  try dsimp only
  rw [aJ (bF (by omega))]
 case h=>
  intro k hk;try dsimp only
  have hl:=tj s M a false k;rw [aM (bO (by omega)),aK hk];simp only [Option.bind_some];rw [B5 _ a (h k hk).le,uS hk (by omega),ay (by omega)];simp only [Option.bind_some]
  cases s.Steps[k].aa.any (hit a false) with
  | true=>
   simp only [cond_true];rw [aK (show k < M.length by omega)];simp only [Option.bind_some,kD,ah.fT];rw [aU (by simp;omega) (by simp;omega)];rfl
  | false=>simp
 simp only [Option.bind_some,qf,mL,ah.fT];rfl
theorem fY.lt {x:bN} (h:fY x):∀ (d j:Nat) (hj:j+1+d < x.aa.length),x.aa[j].an < x.aa[j+1+d].an
 | 0,j,hj=>h.inc j hj
 | d+1,j,hj=>Int.lt_trans (h.lt d j (by omega)) (h.inc (j+1+d) hj)
theorem J6 {x:bN} (h:fY x) {a:Int} {o:Bool} {i:Nat} (hi:i < x.aa.length) (hh:hit a o x.aa[i]=true):(x.aa.take i).any (hit a o)=false:=by
 rw [List.any_eq_false];intro y hy hc;obtain ⟨j,hj,rfl⟩:=List.getElem_of_mem hy;have hj':j < i:=by rw [List.length_take] at hj;omega
 rw [List.getElem_take] at hc;have:=h.lt (i - j - 1) j (by omega);simp only [show j+1+(i - j - 1)=i by omega] at this;unfold hit at hh hc;simp only [Bool.and_eq_true,beq_iff_eq] at hh hc;omega
theorem MI {a:Nat} (h:a < 6):oe ([97,98,99,100,101,102]:List UInt8) (some (a:Int)) (some ((a+1:Nat):Int))=some [UInt8.ofNat (97+a)]:=by
 have:a=0\/a=1\/a=2\/a=3\/a=4\/a=5:=by omega
 rcases this with rfl | rfl | rfl | rfl | rfl | rfl<;>rfl
theorem rune {a:Nat} (h:a < 6):(Utf8.encode (IntKind.wrap .i32 (aO .i64 97 (a:Int)))).data.toList=[UInt8.ofNat (97+a)]:=by
 have:a=0\/a=1\/a=2\/a=3\/a=4\/a=5:=by omega
 rcases this with rfl | rfl | rfl | rfl | rfl | rfl<;>rfl
theorem A1 (a:Nat) (n:UInt8):nL [UInt8.ofNat (97+a)] [n]=some [UInt8.ofNat (97+a),n]:=by
 unfold nL;rw [if_pos (by simp)];rfl
theorem Rm (s:ai) (M T:List Int) (h0:1<=s.U) (h1:s.U<=6) (hs:s.Steps.length<=64) (hM:M.length=s.Steps.length) (h:∀ k (h:k < s.Steps.length),fY s.Steps[k]):
 WW ⟨s,T⟩ M=some (jz s M s.U.toNat):=by
 unfold WW;rw [bh (fun k:Nat=>((k:Int),jz s M k)) s.U.toNat ?hn (jz s M s.U.toNat) ?h0 ?h ?he]
 case hn=>unfold fuel;omega
 case h0=>simp [jz]
 case he=>
  try dsimp only
  rw [aJ (bF (by omega))]
 case h=>
  intro a ha;try dsimp only
  have cZ:=mK s M a;rw [aM (bO (by omega)),rE,ay (by omega)];rw [bh (fun k:Nat=>((k:Int),jz s M a++(([true,false]:List Bool).take k).map (fX s M a))) 2 ?hn (jz s M a++[fX s M a true,fX s M a false]) ?h0 ?h ?he]
  case hn=>unfold fuel;omega
  case h0=>simp
  case he=>rfl
  case h=>
   intro k hk;try dsimp only
   have hk':k < ([true,false]:List Bool).length:=hk;rw [aM (bO (by simp;omega)),aK hk'];simp only [Option.bind_some];have et:(([true,false]:List Bool).take (k+1)).map (fX s M a)=(([true,false]:List Bool).take k).map (fX s M a)++[fX s M a (([true,false]:List Bool)[k])]:=by
    rw [List.take_add_one,List.getElem?_eq_getElem hk',List.map_append];rfl
   rw [et,<-List.append_assoc];have hle:(jz s M a++(([true,false]:List Bool).take k).map (fX s M a)).length<=12+2:=by
    rw [List.length_append,cZ,List.length_map,List.length_take];simp;omega
   generalize jz s M a++(([true,false]:List Bool).take k).map (fX s M a)=acc at hle ⊢;generalize ([true,false]:List Bool)[k]=o;rw [bh (fun j:Nat=>((j:Int),acc,Ac s M a o j)) s.Steps.length ?hn (acc,Ac s M a o s.Steps.length) ?h0 ?h ?he]
   case hn=>unfold fuel;omega
   case h0=>rfl
   case he=>
    try dsimp only
    rw [aJ (bF (by omega))]
   case h=>
    intro j hj;try dsimp only
    have hl:=tj s M a o j;have hx:=h j hj;have hxl:=hx.le;rw [aM (bO (by omega)),uS hj (by omega),ay (by omega)];rw [bh (fun i:Nat=>((i:Int),acc,Ac s M a o j++if (s.Steps[j].aa.take i).any (hit a o) then [eB (M[j]'(by omega))] else [])) s.Steps[j].aa.length ?hn (acc,Ac s M a o j++if s.Steps[j].aa.any (hit a o) then [eB (M[j]'(by omega))] else []) ?h0 ?h ?he]
    case hn=>unfold fuel;omega
    case h0=>simp
    case he=>
     try dsimp only
     rw [aK hj];simp only [Option.bind_some];rw [aJ (bF (by omega)),List.take_length]
    case h=>
     intro i hi;try dsimp only
     rw [aK hj];simp only [Option.bind_some];rw [aM (bO (by omega)),aK hi];simp only [Option.bind_some,kE,ah.fT];have eh:((s.Steps[j].aa[i].an==(a:Int)&&(s.Steps[j].aa[i].Out==o&&true)) !=false)=hit a o s.Steps[j].aa[i]:=by
      unfold hit;simp
     have ea:(s.Steps[j].aa.take (i+1)).any (hit a o)=((s.Steps[j].aa.take i).any (hit a o)||hit a o s.Steps[j].aa[i]):=by
      rw [List.take_add_one,List.getElem?_eq_getElem hi,List.any_append];simp
     rw [eh,ea,ay (by omega)]
     cases hb:hit a o s.Steps[j].aa[i] with
     | true=>
      rw [J6 hx hi hb];simp only [cond_true];rw [aK (show j < M.length by omega)];simp only [Option.bind_some];rw [if_neg (by simp),List.append_nil,aU (by simp;omega) (by simp;omega)];simp
     | false=>simp
    rfl
   simp only [Option.bind_some];rw [MI (show a < 6 by omega)];simp only [Option.bind_some,mL,A1]
   cases o with
   | true=>
    simp only [cond_true,Option.bind_some,ah.fT];rw [aU (by simp;omega) (by simp;omega),ay (by omega)];rfl
   | false=>
    simp only [cond_false,Option.bind_some,ah.fT];rw [aU (by simp;omega) (by simp;omega),ay (by omega)];rfl
  rfl
 rfl
end cQ
end
section
namespace cQ
open Go Go.Pl
set_option linter.unusedVariables false
set_option linter.unusedSimpArgs false
theorem gQ {s:ai}:(iO s).length=s.Steps.length:=by
 unfold iO;split
 ·rename_i h;rw [h];rfl
 ·simp [mods]
theorem nF {s:ai}:(chain s).length=s.Steps.length:=by
 unfold chain;split
 ·rename_i h;rw [h];rfl
 ·simp [eg]
theorem BW {s:ai} {M:List Int} (hM:M.length=s.Steps.length):∀ k,k<=s.Steps.length->(jY s M k).length=cnt s k
 | 0,_=>by simp [jY,cnt]
 | k+1,hk=>by
  have hk':k < s.Steps.length:=by omega
  rw [nu,List.length_append,BW hM k (by omega),jl hk'];unfold mq;rw [List.getElem?_eq_getElem hk',List.getElem?_eq_getElem (show k < M.length by omega)];dsimp only;split<;>simp
def base (s:ai):List ak:=chain s++jY s (iO s) s.Steps.length
theorem Ll {s:ai}:(base s).length=s.Steps.length+cnt s s.Steps.length:=by
 unfold base;rw [List.length_append,nF,BW gQ _ (Nat.le_refl _)]
def pm (s:ai) (d:Int) (k:Nat):List Int:=(List.range k).map fun j:Nat=>fst s+((base s).length:Int)+2*(j:Int)+d
theorem tM {s:ai} {d:Int} {k:Nat}:pm s d (k+1)=pm s d k++[fst s+((base s).length:Int)+2*(k:Int)+d]:=by
 unfold pm;rw [List.range_succ,List.map_append];rfl
theorem zi {s:ai} {d:Int} {k:Nat}:(pm s d k).length=k:=by simp [pm]
def LC (s:ai):aA:=⟨s.U,[[115,116,97,114,116]],base s++jz s (iO s) s.U.toNat,pm s 0 s.U.toNat,pm s 1 s.U.toNat⟩
theorem BX {s:ai} (h:Good s):CN (chain s)=some ():=by
 have:=h.n0;have e:=nF (s:=s)
 cases hq:chain s with
 | nil=>rw [hq] at e;simp at e;omega
 | cons a l=>rfl
theorem SX {s:ai} (h:Good s):WM ⟨s,fst s,iO s,kL s (tb s) s.Steps.length⟩=some (LC s):=by
 have PL:=h.a1;have YC:=h.a6;have hn:=h.n64;have hf:=mE h.a1 h.a6;have iM:=nF (s:=s);have hkl:=mO s (iO s) s.Steps.length;have CE:(base s).length<=128:=by unfold base;rw [List.length_append];omega
 unfold WM;rw [N2 h,Nh s _ _ _ hn gQ h.step];simp only [Option.bind_some];rw [BX h];simp only [Option.bind_some];rw [aU (by omega) (by omega)];simp only [Option.bind_some];rw [show chain s++jY s (iO s) s.Steps.length=base s from rfl];rw [bh (fun k:Nat=>((k:Int),(0:Int),([]:List (List UInt8)),([]:List ak),([]:List Int),([]:List Int),([[115,116,97,114,116]]:List (List UInt8)),base s++jz s (iO s) k,s.U,pm s 0 k,pm s 1 k)) s.U.toNat ?hn
  ((0:Int),([]:List (List UInt8)),([]:List ak),([]:List Int),([]:List Int),([[115,116,97,114,116]]:List (List UInt8)),base s++jz s (iO s) s.U.toNat,s.U,pm s 0 s.U.toNat,pm s 1 s.U.toNat) ?h0 ?h ?he]
 case hn=>unfold fuel;omega
 case h0=>simp [jz,pm]
 case he=>
  try dsimp only
  rw [aJ (bF (by omega))]
 case h=>
  intro k hk;try dsimp only
  have cZ:=mK s (iO s) k;have T0:=zi (s:=s) (d:=0) (k:=k);have T1:=zi (s:=s) (d:=1) (k:=k);have Ov:((base s++jz s (iO s) k).length:Int)=((base s).length:Int)+2*(k:Int):=by rw [List.length_append,cZ];omega
  rw [aM (bO (by omega)),Ov,bH (show -9223372036854775808<=fst s+(((base s).length:Int)+2*(k:Int)) by omega) (by omega)];rw [bH (show -9223372036854775808<=fst s+(((base s).length:Int)+2*(k:Int))+1 by omega) (by omega)];rw [aU (by simp [T0];omega) (by simp [T0];omega),aU (by simp [T1];omega) (by simp [T1];omega),rune (show k < 6 by omega)];simp only [Option.bind_some,A1];rw [B6 s _ _ _ _ _ hn gQ h.step,B7 s _ _ _ _ _ hn gQ h.step];simp only [Option.bind_some,ah.fT];rw [aU (by rw [List.length_append,cZ];simp;omega) (by rw [List.length_append,cZ];simp;omega)];simp only [Option.bind_some];rw [rE,tM,tM,ay (by omega),List.append_assoc];rw [show fst s+(((base s).length:Int)+2*(k:Int))+1=fst s+((base s).length:Int)+2*(k:Int)+1 by omega,show fst s+(((base s).length:Int)+2*(k:Int))=fst s+((base s).length:Int)+2*(k:Int)+0 by omega];rfl
 rfl
theorem I8 {s:ai} (h:Good s):Tq s=some (LC s):=by
 have PL:=h.a1;have YC:=h.a6;have hn:=h.n64;have hf:=mE h.a1 h.a6;have iM:=nF (s:=s);have hkl:=mO s (iO s) s.Steps.length;have CE:(base s).length<=128:=by unfold base;rw [List.length_append];omega
 have cZ:=mK s (iO s) s.U.toNat;unfold Tq lY;rw [vo h,SB h,vp h];simp only [Option.bind_some];rw [BX h,Sk s _ _ (Eu h) hn gQ h.step,Rm s _ _ PL YC hn gQ h.step];simp only [Option.bind_some];rw [aU (by omega) (by omega)];simp only [Option.bind_some];rw [show chain s++jY s (iO s) s.Steps.length=base s from rfl];rw [aU (by rw [cZ];omega) (by rw [cZ];omega)];simp only [Option.bind_some,Mt h];have Ov:((base s++jz s (iO s) s.U.toNat).length:Int)=((base s).length:Int)+2*s.U:=by rw [List.length_append,cZ];omega
 rw [Ov];have e1:aO .i64 (2*s.U) (([[115,116,97,114,116]]:List (List UInt8)).length:Int)=fst s:=by
  rw [bH (by simp;omega) (by simp;omega)];rfl
 rw [e1,bH (show -9223372036854775808<=fst s+(((base s).length:Int)+2*s.U) by omega) (by omega)];have e2:dF .i64 (fst s+(((base s).length:Int)+2*s.U)) (2*s.U)=fst s+((base s).length:Int):=by
  rw [ef (by omega) (by omega)];omega
 rw [e2];rw [bh (fun k:Nat=>((k:Int),(0:Int),([]:List (List UInt8)),([]:List ak),([]:List Int),([]:List Int),([[115,116,97,114,116]]:List (List UInt8)),base s++jz s (iO s) s.U.toNat,s.U,s.U,(0:Int),([]:List (List UInt8)),([]:List ak),([]:List Int),([]:List Int),pm s 0 k,pm s 1 k)) s.U.toNat ?hn
  ((0:Int),([]:List (List UInt8)),([]:List ak),([]:List Int),([]:List Int),([[115,116,97,114,116]]:List (List UInt8)),base s++jz s (iO s) s.U.toNat,s.U,s.U,(0:Int),([]:List (List UInt8)),([]:List ak),([]:List Int),([]:List Int),pm s 0 s.U.toNat,pm s 1 s.U.toNat) ?h0 ?h ?he]
 case hn=>unfold fuel;omega
 case h0=>simp [pm]
 case he=>
  try dsimp only
  rw [aJ (bF (by omega))]
 case h=>
  intro k hk;try dsimp only
  have T0:=zi (s:=s) (d:=0) (k:=k);have T1:=zi (s:=s) (d:=1) (k:=k);have e3:dw .i64 2 (k:Int)=2*(k:Int):=iA (by omega) (by omega);rw [aM (bO (by omega)),e3,bH (show -9223372036854775808<=fst s+((base s).length:Int)+2*(k:Int) by omega) (by omega)];rw [bH (show -9223372036854775808<=fst s+((base s).length:Int)+2*(k:Int)+1 by omega) (by omega)];rw [aU (by simp [T0];omega) (by simp [T0];omega),aU (by simp [T1];omega) (by simp [T1];omega)];simp only [Option.bind_some];rw [tM,tM,ay (by omega),Int.add_zero]
 rfl
def noC:aA:=⟨0,[],[],[],[]⟩
def err (s:ai):Int:=if yG s≠0 then yG s else if 64 < s.Steps.length+cnt s s.Steps.length+2*s.U.toNat then 5 else 0
theorem SE (s:ai) (hs:Small s):WT s=some (err s):=by
 unfold WT err;rw [IW s hs];simp only [Option.bind_some];by_cases hc:yG s=0
 ·have h:=vn hc;have PL:=h.a1;have YC:=h.a6;have hn:=h.n64;have hcn:=zg s s.Steps.length;rw [hc,vo h];simp only [Option.bind_some,bne_self_eq_false,cond_false,Mt h];rw [SU s _ (Eu h) hn];simp only [Option.bind_some];rw [bH (show -9223372036854775808<=(s.Steps.length:Int)+(cnt s s.Steps.length:Int) by omega) (by omega),bH (by omega) (by omega),if_neg (show ¬ (0:Int)≠0 by decide)];by_cases hb:64 < s.Steps.length+cnt s s.Steps.length+2*s.U.toNat
  ·rw [if_pos hb,aM (by simp only [decide_eq_true_eq];omega)]
  ·rw [if_neg hb,aJ (by simp only [decide_eq_false_iff_not];omega)]
 ·have hb:(yG s !=0)=true:=by simpa using hc
  rw [if_pos hc,hb,cond_true]
theorem Fs {s:ai} (h:Good s):(LC s).af.length=s.Steps.length+cnt s s.Steps.length+2*s.U.toNat:=by
 unfold LC;rw [List.length_append,Ll,mK]
theorem SD (s:ai):WN s=some (if err s≠0 then (none,noC,err s) else (some ⟨s,fst s,iO s,kL s (tb s) s.Steps.length⟩,LC s,0)):=by
 unfold WN err;rw [RT s];simp only [Option.bind_some];by_cases hc:yG s=0
 ·have h:=vn hc;have hl:=Fs h;rw [hc,Wm h];simp only [Option.bind_some,bne_self_eq_false,cond_false];rw [SX h];simp only [Option.bind_some];rw [if_neg (show ¬ (0:Int)≠0 by decide)];by_cases hb:64 < s.Steps.length+cnt s s.Steps.length+2*s.U.toNat
  ·rw [if_pos hb,aM (by simp only [decide_eq_true_eq];omega),if_pos (by decide)];rfl
  ·rw [if_neg hb,aJ (by simp only [decide_eq_false_iff_not];omega),if_neg (by decide)]
 ·have hb:(yG s !=0)=true:=by simpa using hc
  rw [if_pos hc,if_pos hc,hb];rfl
end cQ
end
section
namespace cQ
open Go Go.Pl
set_option linter.unusedVariables false
set_option linter.unusedSimpArgs false
theorem abq {n:Int} (h0:0<=n) (h1:n<=256):dF .i64 n 1=n - 1:=ef (by omega) (by omega)
theorem M3 (x:ah) (n:Int) (h0:0<=n) (h1:n<=256) (hl:(x.au.length:Int)<=256):G5 x n=Aj x n:=by
 obtain ⟨op,ix,as⟩:=x;unfold G5 Aj;dsimp only at hl ⊢;by_cases o0:op < 0
 ·simp [o0]
 by_cases o5:op≥5
 ·simp [o0,o5]
 have:op=0\/op=1\/op=2\/op=3\/op=4:=by omega
 have hs:=abq h0 h1;have e1:(n - 1 < ix)=(n<=ix):=propext ⟨fun h=>by omega,fun h=>by omega⟩;generalize as.length=L at hl ⊢;have l0:¬ ((L:Nat):Int) < 0:=by omega
 have l9:¬ 256 < ((L:Nat):Int):=by omega
 have l8:¬ ((L:Nat):Int) > 256:=by omega
 have hL:L=0\/L=1\/2<=L:=by omega
 have hI:ix < 0\/ix=0\/ix=1\/2<=ix:=by omega
 rcases this with rfl | rfl | rfl | rfl | rfl<;>rcases hL with rfl | rfl | hL<;>simp [hs,e1,l0,l9]
 all_goals (try have q1:¬ L=0:=by omega)
 all_goals (try have q2:¬ L=1:=by omega)
 all_goals (try have q3:0 < L:=by omega)
 all_goals (try have q4:1 < L:=by omega)
 all_goals (try have q5:¬ L < 2:=by omega)
 all_goals (try have q6:¬ (L:Int) < 2:=by omega)
 all_goals (try have q7:¬ (L:Int) < 1:=by omega)
 all_goals (try have q8:((L:Int) !=0)=true:=bne_iff_ne.2 (by omega))
 all_goals (try have q9:((L:Int) !=1)=true:=bne_iff_ne.2 (by omega))
 all_goals (try have qa:1 < (L:Int):=by omega)
 all_goals (try simp [qa,q8,q9,q1,q2,q3,q4,q5,q6,q7,l0,l9])
 all_goals (try (rcases hI with h | rfl | rfl | h<;>first | rfl | (have p1:¬ ix < 0:=by omega;have p2:1 < ix:=by omega;have p3:0 < ix:=by omega;have p4:1<=ix:=by omega;simp [h,p1,p2,p3,p4]) | simp [h] | simp))
end cQ
end
section
namespace cQ
open Go Go.Pl
set_option linter.unusedVariables false
set_option linter.unusedSimpArgs false
mutual
def tc:ah->Nat
 | ⟨_,_,l⟩=>1+eH l
def eH:List ah->Nat
 | []=>0
 | x::l=>tc x+eH l
end
theorem eta (x:ah):(⟨x.Op,x.Index,x.au⟩:ah)=x:=by cases x;rfl
theorem mC (x:ah):tc x=1+eH x.au:=by cases x;rw [tc]
theorem zC (x:ah):1<=tc x:=by rw [mC];omega
theorem rN:∀ (l:List ah) (i:Nat) (h:i < l.length),eH (l.take (i+1))=eH (l.take i)+tc l[i]
 | x::l,0,h=>by simp [eH]
 | x::l,i+1,h=>by
  have:=rN l i (by simpa using h);simp only [List.take_succ_cons,eH,List.getElem_cons_succ];omega
theorem zD:∀ (l:List ah) (i:Nat),eH (l.take i)<=eH l
 | [],i=>by simp
 | x::l,0=>by simp [eH]
 | x::l,i+1=>by
  have:=zD l i;simp only [List.take_succ_cons,eH];omega
theorem qi:∀ (l:List ah) (i:Nat),i<=l.length->i<=eH (l.take i)
 | l,0,_=>by simp
 | x::l,i+1,h=>by
  have:=qi l i (by simpa using h);have:=zC x;simp only [List.take_succ_cons,eH];omega
theorem count_eq:∀ (k:Nat) (x:ah) (m:Nat),m<=256->m < k->FO k x (m:Int)=some ((min (tc x) (m+1):Nat):Int)
 | 0,x,m,_,h=>by omega
 | k+1,x,m,hm,hk=>by
  show QL (FO k) x m=_;unfold QL;obtain ⟨r,h1,h2⟩:=Gj (body:=fun s1:Int×Int=>(((bif (decide (s1.2 < (x.au.length:Int))) then some (decide (s1.1<=(m:Int))) else some false):Option (Bool)).bind fun w3=>(bif w3 then (idx x.au s1.2).bind fun v4=>(FO k (⟨v4.Op,v4.Index,v4.au⟩:ah) (dF .i64 m s1.1)).bind fun v5=>some (.inl ((aO .i64 s1.1 v5),(aO .i64 s1.2 1))) else some (.inr s1.1)):Option ((Int×Int)⊕(Int)))) (t0:=1) (m+1) (show m+1 < 2 ^ 64 by omega)
   (fun i t=>i<=x.au.length/\t=((min (1+eH (x.au.take i)) (m+1):Nat):Int)) (fun r=>r=((min (tc x) (m+1):Nat):Int)) ⟨Nat.zero_le _,by simp [eH]⟩ (by
   rintro i t hi ⟨h1,h2⟩;subst h2;dsimp only;have hz:=mC x;by_cases hl:i < x.au.length
   ·rw [bO (show ((i:Nat):Int) < (x.au.length:Int) by omega),cond_true];dsimp only [Option.bind];have hT:=rN x.au i hl;have hP:=zC x.au[i];have hB:=qi x.au i h1;by_cases hc:1+eH (x.au.take i)<=m
    ·have e1:min (1+eH (x.au.take i)) (m+1)=1+eH (x.au.take i):=by omega
     rw [e1];refine .inl ⟨((min (1+eH (x.au.take (i+1))) (m+1):Nat):Int),by omega,?_,by omega,rfl⟩;rw [Mi (show ((1+eH (x.au.take i):Nat):Int)<=(m:Int) by omega),cond_true,aK hl];dsimp only;rw [ef (by omega) (by omega),show (m:Int) - ((1+eH (x.au.take i):Nat):Int)=((m - (1+eH (x.au.take i)):Nat):Int) by omega];rw [eta,count_eq k x.au[i] (m - (1+eH (x.au.take i))) (by omega) (by omega)];dsimp only;rw [bH (by omega) (by omega),ay (by omega),hT];congr 3;omega
    ·have e1:min (1+eH (x.au.take i)) (m+1)=m+1:=by omega
     rw [e1];refine .inr ⟨((m+1:Nat):Int),?_,?_⟩
     ·rw [Uu (show ¬ ((m+1:Nat):Int)<=(m:Int) by omega)];rfl
     ·have:=zD x.au i;congr 1;omega
   ·have e:i=x.au.length:=by omega
    subst e;rw [bF (by omega),cond_false];dsimp only [Option.bind];refine .inr ⟨_,rfl,?_⟩;rw [List.take_length,hz])
  rw [h1,h2];rfl
end cQ
end
