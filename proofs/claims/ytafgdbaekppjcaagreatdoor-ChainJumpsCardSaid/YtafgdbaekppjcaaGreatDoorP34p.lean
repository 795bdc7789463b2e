/- Parts of my machine and its laws, joined: P34p P34q P34r P35a P35b P35c. No condition. -/
import Derived.Test.YtafgdbaekppjcaaGreatDoorP34d
set_option linter.unusedSectionVars false
set_option linter.unusedVariables false
set_option linter.unusedSimpArgs false
section
namespace ck
open Go Go.Pl
def yL (n v:Int):Bool:=decide (v < 0)||decide (v≥n)
theorem Av {α β γ:Type} (f:α->β) (g:γ->Option α):∀ l:List γ,l.findSome? (fun j=>(g j).map f)=(l.findSome? g).map f
 | []=>rfl
 | x::l=>by
  rw [zaY,zaY,Av f g l]
  cases g x<;>rfl
theorem Em (n:Int):∀ l:List Int,l.findSome? (fun v=>if yL n v then some (6:Int) else none)=if l.any (yL n) then some 6 else none
 | []=>rfl
 | x::l=>by
  rw [zaY,Em n l,zc1]
  cases yL n x<;>rfl
theorem SQ {c:an} (h:cG c) (l:List Int) (hl:l.length < 2 ^ 62):
 rT l c.U c.ay c.aa c.bU c.aX=some (l.any (yL (fl c+c.aa.length))):=by
 unfold rT xh;rw [bp (s0:=(0:Int)) (fun k:Nat=>(k:Int)) (fun k=>(l[k]?).bind fun v=>if yL (fl c+c.aa.length) v then some (k:Int) else none) l.length (show l.length < 2 ^ 64 by omega) () rfl (fun k hk _=>by
  rw [bw (show ((k:Nat):Int) < (l.length:Int) by omega),cond_true,ax hk,za1 hk];dsimp only [Option.bind];unfold Vb;rw [Vq,show FH c=nc c from rfl,h.nc,aq (by omega)];unfold yL;dsimp only [Option.bind]
  cases decide (l[k] < 0)<;>cases decide (l[k]≥fl c+c.aa.length)<;>rfl) (fun _=>by rw [bg (by omega),cond_false])]
 cases hf:first l.length (fun k=>(l[k]?).bind fun v=>if yL (fl c+c.aa.length) v then some (k:Int) else none) with
 | none=>
  have:l.any (yL (fl c+c.aa.length))=false:=zbd.2 fun x hx hn=>by
   obtain ⟨i,hi,rfl⟩:=zaE hx;have:=bC.1 hf i hi;rw [za1 hi] at this;dsimp only [Option.bind] at this;rw [if_pos hn] at this;cases this
  rw [this];rfl
 | some r=>
  obtain ⟨k,hk,hr⟩:=zae hf;have hk:=zac.1 hk;rw [za1 hk] at hr;dsimp only [Option.bind] at hr;split at hr
  ·rename_i hn;injection hr with hr;subst hr
   rw [zbq.2 ⟨l[k],zax hk,hn⟩];show some (decide ((k:Int)≥0))=_;rw [decide_eq_true (by omega)]
  ·cases hr
theorem zP {c:an} (h:cG c):VN c=some (if (c.bU.length:Int)≠c.U\/(c.aX.length:Int)≠c.U then 8 else if (c.bU++c.aX).any (yL (fl c+c.aa.length)) then 6 else 0):=by
 unfold VN;have:=h.a6;by_cases h1:(c.bU.length:Int)=c.U
 case neg=>
  rw [show ((c.bU.length:Int) !=c.U)=true from bne_iff_ne.2 h1,cond_true,if_pos (.inl h1)];rfl
 rw [show ((c.bU.length:Int) !=c.U)=false from by rw [h1];exact bne_self_eq_false _,cond_false];by_cases h2:(c.aX.length:Int)=c.U
 case neg=>
  rw [show ((c.aX.length:Int) !=c.U)=true from bne_iff_ne.2 h2,if_pos (.inr h2)];rfl
 rw [show ((c.aX.length:Int) !=c.U)=false from by rw [h2];exact bne_self_eq_false _,if_neg (by rintro (h | h);exact h h1;exact h h2)];rw [za,cond_false];have inner:∀ l:List Int,l.length < 2 ^ 62->iter (fun s5:Int=>((bif (decide (s5 < (l.length:Int))) then ((idx l s5).bind fun v8=>(bif (decide (v8 < 0)) then some true else (idx l s5).bind fun v9=>(nc c).bind fun v10=>some (decide (v9≥v10))):Option (Bool)).bind fun w7=>(bif w7 then some (.inr (.inr (.inr (.inr 6)))) else some (.inl (aE .i64 s5 1))) else some (.inr (.inl ()))):Option ((Int)⊕((Unit)⊕((Int)⊕((Unit)⊕Int)))))) 0=some (if l.any (yL (fl c+c.aa.length)) then .inr (.inr (.inr 6)) else .inl ()):=fun l hl=>by
  rw [dY (s0:=(0:Int)) l (fun v=>(if yL (fl c+c.aa.length) v then some (6:Int) else none).map (fun r=>(Sum.inr (Sum.inr r):Int⊕(Unit⊕Int)))) (show l.length < 2 ^ 64 by omega) () rfl (fun k hk=>by
   rw [bw (show ((k:Nat):Int) < (l.length:Int) by omega),cond_true,ax hk,h.nc,aq (by omega)];unfold yL;dsimp only [Option.bind]
   cases decide (l[k] < 0)<;>cases decide (l[k]≥fl c+c.aa.length)<;>rfl) (by rw [bg (by omega),cond_false])]
  have:l.findSome? (fun v=>(if yL (fl c+c.aa.length) v then some (6:Int) else none).map (fun r=>(Sum.inr (Sum.inr r):Int⊕(Unit⊕Int))))=(if l.any (yL (fl c+c.aa.length)) then some 6 else none).map (fun r=>(Sum.inr (Sum.inr r):Int⊕(Unit⊕Int))):=by
   rw [<-Em];exact Av _ _ l
  rw [this]
  cases l.any (yL (fl c+c.aa.length))<;>rfl
 rw [List.any_append];rw [bp (s0:=(0:Int)) (fun k:Nat=>(k:Int)) (fun k=>if (if k=0 then c.bU else c.aX).any (yL (fl c+c.aa.length)) then some (6:Int) else none) 2 (show 2 < 2 ^ 64 by omega) () rfl (fun k hk _=>by
  have hk2:k=0\/k=1:=by omega
  rcases hk2 with rfl | rfl
  ·rw [show decide (((0:Nat):Int) < 2)=true from rfl,cond_true,if_pos (show ((0:Nat):Int)=0 from rfl)];rw [za,inner c.bU (by omega),if_pos (show (0:Nat)=0 from rfl)]
   cases c.bU.any (yL (fl c+c.aa.length))<;>rfl
  ·rw [show decide (((1:Nat):Int) < 2)=true from rfl,cond_true,if_neg (show ¬ ((1:Nat):Int)=0 by omega),if_pos (show ((1:Nat):Int)=1 from rfl)];rw [za,inner c.aX (by omega),if_neg (show ¬ (1:Nat)=0 by omega)]
   cases c.aX.any (yL (fl c+c.aa.length))<;>rfl) (fun _=>rfl)]
 unfold first
 rw [show List.range 2=[0,1] from rfl,zaY,zaY,List.findSome?_nil];simp only [if_pos (show (0:Nat)=0 from rfl),if_neg (show ¬ (1:Nat)=0 by omega),if_true]
 cases c.bU.any (yL (fl c+c.aa.length))<;>cases c.aX.any (yL (fl c+c.aa.length))<;>rfl
end ck
end
section
namespace ck
open Go Go.Pl
abbrev St7:=(List (List UInt8))×(List Int)×Int×(List (List UInt8))×(List aS)×(List Int)×(List Int)
def KK (c:an) (L:MP):St7:=(L.map (·.1),L.map (·.2),c.U,c.ay,c.aa,c.bU,c.aX)
theorem P0 (c:an) (k:Nat):ja c k ((List.range k).map fun j=>(nm c j,0)):=fun y=>by
 rw [zb6,zaT];exact ⟨fun ⟨j,h,e⟩=>⟨j,zac.1 h,e⟩,fun ⟨j,h,e⟩=>⟨j,zac.2 h,e⟩⟩
theorem Dl (c:an) (ht:vX c):∃ e,m64 c=some e/\Ut c=some e:=by
 unfold m64 Ut;by_cases h1:c.U < 1
 ·rw [bw h1];exact ⟨2,rfl,rfl⟩
 rw [bg h1,cond_false,za];by_cases h2:c.U > 6
 ·rw [decide_eq_true h2];exact ⟨2,rfl,rfl⟩
 rw [decide_eq_false h2,cond_false];by_cases h3:(c.ay.length:Int) > 16
 ·rw [decide_eq_true h3];exact ⟨5,rfl,rfl⟩
 rw [decide_eq_false h3,cond_false,za];by_cases h4:(c.aa.length:Int) > 64
 ·rw [decide_eq_true h4];exact ⟨5,rfl,rfl⟩
 rw [decide_eq_false h4,cond_false];have h:cG c:=⟨by omega,by omega,by omega,by omega⟩;have hf:=h.Yb;have:=h.a1;have:=h.a6;have:=h.i;have:=h.s;have hfl:fl c=2*c.U+c.ay.length:=rfl;obtain ⟨A,hA⟩:∃ A:Nat,c.U=(A:Int):=⟨c.U.toNat,by omega⟩;rw [show dF .i64 2 c.U=((2*A:Nat):Int) by rw [gI (by omega) (by omega)];omega];refine r8 (τ:=St7) (2*A) (show 2*A < 2 ^ 64 by omega) (fun k t=>∃ L,ja c k L/\t=KK c L) (fun r=>∃ L,ja c (2*A) L/\r=KK c L) ⟨[],ja.zero c,rfl⟩ ?_ ?_
 ·rintro k t hk ⟨L,hL,rfl⟩;unfold KK;dsimp only;by_cases hkk:k < 2*A
  ·rw [bw (show ((k:Nat):Int) < ((2*A:Nat):Int) by omega),cond_true,ND c (by omega) (by omega) _ (by omega),(BB h ht k (by omega)).1];simp only [dB,za,aq (show k < 9223372036854775807 by omega)];exact .inl ⟨_,hkk,rfl,_,hL.more fun y=>BV _ _ _ _,rfl⟩
  ·have:k=2*A:=by omega
   subst this;rw [bg (by omega),cond_false];simp only [dB];exact .inr ⟨_,rfl,L,hL,rfl⟩
 rintro r ⟨L,hL,rfl⟩;unfold KK;simp only [dB];let g1:Nat->Option Int:=fun i=>(yU c ((2*A+i:Nat):Int)).bind fun e=>if e≠0 then some e else none
 have KH:iter (fun s3:Int=>((bif (decide (s3 < (c.ay.length:Int))) then (yU c (aE .i64 ((2*A:Nat):Int) s3)).bind fun v5=>(bif (v5 !=0) then some (.inr (.inr v5)) else some (.inl (aE .i64 s3 1))) else some (.inr (.inl ()))):Option ((Int)⊕((Unit)⊕Int)))) 0=some (match first c.ay.length g1 with | none=> .inl () | some r=> .inr r):=by
  rw [bp (s0:=(0:Int)) (fun i:Nat=>(i:Int)) g1 c.ay.length (show c.ay.length < 2 ^ 64 by omega) () rfl (fun i hi _=>by
   rw [bw (show ((i:Nat):Int) < (c.ay.length:Int) by omega),cond_true,bA (by omega) (by omega),show ((2*A:Nat):Int)+(i:Int)=((2*A+i:Nat):Int) by omega];rw [show g1 i=(yU c ((2*A+i:Nat):Int)).bind fun e=>if e≠0 then some e else none from rfl,wW h ht (2*A+i) (by omega)];generalize Us _ _=e;rw [za,za,aq (by omega)];by_cases he:e=0
   ·subst he;rfl
   ·rw [show (e !=0)=true from bne_iff_ne.2 he,if_pos he];rfl) (fun _=>by rw [bg (by omega),cond_false])]
  cases first c.ay.length g1<;>rfl
 rw [KH];let g2:Nat->Option Int:=fun i=>(A7 c (i:Int)).bind fun e=>if e≠0 then some e else none
 have hd2:iter (fun s6:Int=>((bif (decide (s6 < (c.aa.length:Int))) then (A7 c s6).bind fun v8=>(bif (v8 !=0) then some (.inr (.inr v8)) else some (.inl (aE .i64 s6 1))) else some (.inr (.inl ()))):Option ((Int)⊕((Unit)⊕Int)))) 0=some (match first c.aa.length g2 with | none=> .inl () | some r=> .inr r):=by
  rw [bp (s0:=(0:Int)) (fun i:Nat=>(i:Int)) g2 c.aa.length (show c.aa.length < 2 ^ 64 by omega) () rfl (fun i hi _=>by
   rw [bw (show ((i:Nat):Int) < (c.aa.length:Int) by omega),cond_true];rw [show g2 i=(A7 c (i:Int)).bind fun e=>if e≠0 then some e else none from rfl];obtain ⟨e,_,he,_⟩:=AE h ht i hi (2*A+c.ay.length+i) (by omega) (P0 c _);rw [he,za,za,aq (by omega)];by_cases he:e=0
   ·subst he;rfl
   ·rw [show (e !=0)=true from bne_iff_ne.2 he,if_pos he];rfl) (fun _=>by rw [bg (by omega),cond_false])]
  cases first c.aa.length g2<;>rfl
 rw [hd2,zP h];refine r8 (τ:=St7) c.ay.length (show c.ay.length < 2 ^ 64 by omega) (fun i t=>(∃ L,ja c (2*A+i) L/\t=KK c L)/\∀ j,j < i->g1 j=none)
  (fun r=>match r with
   | .inl t=>(∃ L,ja c (2*A+c.ay.length) L/\t=KK c L)/\first c.ay.length g1=none
   | .inr e=>first c.ay.length g1=some e) ⟨⟨L,hL,rfl⟩,fun j hj=>by omega⟩ ?_ ?_
 ·rintro i t hi ⟨⟨L,hL,rfl⟩,hj⟩;unfold KK;dsimp only;by_cases zy:i < c.ay.length
  ·obtain ⟨e,L',e1,e2,e3⟩:=D3 h ht (2*A+i) (by omega) hL;rw [TC h i zy (2*A+i) (by omega)] at e2;rw [bw (show ((i:Nat):Int) < (c.ay.length:Int) by omega),cond_true,ax zy];simp only [dB,za,e2,Sum.elim_inl];have hg:g1 i=if e≠0 then some e else none:=by
    show (yU c ((2*A+i:Nat):Int)).bind _=_;rw [e1];rfl
   by_cases he:e=0
   ·subst he;refine .inl ⟨_,zy,?_,⟨L',e3 rfl,rfl⟩,fun j hj'=>?_⟩
    ·rw [aq (by omega)];rfl
    ·by_cases e:j=i
     ·subst e;rw [hg];rfl
     ·exact hj j (by omega)
   ·rw [show (e !=0)=true from bne_iff_ne.2 he,cond_true];exact .inr ⟨_,rfl,mK zy hj (by rw [hg,if_pos he])⟩
  ·have:i=c.ay.length:=by omega
   subst this;rw [bg (by omega),cond_false];simp only [dB];exact .inr ⟨_,rfl,⟨L,hL,rfl⟩,j8 hj⟩
 rintro (r | r) hr
 case inr=>
  have hr:first c.ay.length g1=some r:=hr
  rw [hr];exact ⟨r,rfl,rfl⟩
 obtain ⟨⟨L,hL,rfl⟩,hr⟩:=hr;rw [hr];unfold KK;simp only [dB,Sum.elim_inl,za];refine r8 (τ:=St7) c.aa.length (show c.aa.length < 2 ^ 64 by omega) (fun i t=>(∃ L,ja c (2*A+c.ay.length+i) L/\t=KK c L)/\∀ j,j < i->g2 j=none)
  (fun r=>match r with
   | .inl t=>(∃ L,t=KK c L)/\first c.aa.length g2=none
   | .inr e=>first c.aa.length g2=some e) ⟨⟨L,hL,rfl⟩,fun j hj=>by omega⟩ ?_ ?_
 ·rintro i t hi ⟨⟨L,hL,rfl⟩,hj⟩;unfold KK;dsimp only;by_cases zy:i < c.aa.length
  ·obtain ⟨e,L',e1,e2,e3⟩:=AE h ht i zy (2*A+c.ay.length+i) (by omega) hL;rw [bw (show ((i:Nat):Int) < (c.aa.length:Int) by omega),cond_true];simp only [dB,za,e2,Sum.elim_inl];have hg:g2 i=if e≠0 then some e else none:=by
    show (A7 c (i:Int)).bind _=_;rw [e1];rfl
   by_cases he:e=0
   ·subst he;refine .inl ⟨_,zy,?_,⟨L',e3 rfl,rfl⟩,fun j hj'=>?_⟩
    ·rw [aq (by omega)];rfl
    ·by_cases e:j=i
     ·subst e;rw [hg];rfl
     ·exact hj j (by omega)
   ·rw [show (e !=0)=true from bne_iff_ne.2 he,cond_true];exact .inr ⟨_,rfl,mK zy hj (by rw [hg,if_pos he])⟩
  ·have:i=c.aa.length:=by omega
   subst this;rw [bg (by omega),cond_false];simp only [dB];exact .inr ⟨_,rfl,⟨L,rfl⟩,j8 hj⟩
 rintro (r | r) hr
 case inr=>
  have hr:first c.aa.length g2=some r:=hr
  rw [hr];exact ⟨r,rfl,rfl⟩
 obtain ⟨⟨L,rfl⟩,hr⟩:=hr;rw [hr];unfold KK;simp only [dB,Sum.elim_inl,za];by_cases p1:(c.bU.length:Int)=c.U
 case neg=>
  rw [show ((c.bU.length:Int) !=c.U)=true from bne_iff_ne.2 p1,cond_true,if_pos (.inl p1)];exact ⟨8,rfl,rfl⟩
 rw [show ((c.bU.length:Int) !=c.U)=false from by rw [p1];exact bne_self_eq_false _,cond_false];by_cases p2:(c.aX.length:Int)=c.U
 case neg=>
  rw [show ((c.aX.length:Int) !=c.U)=true from bne_iff_ne.2 p2,if_pos (.inr p2)];exact ⟨8,rfl,rfl⟩
 rw [show ((c.aX.length:Int) !=c.U)=false from by rw [p2];exact bne_self_eq_false _,if_neg (by rintro (h | h);exact h p1;exact h p2)];simp only [za,cond_false,dB];have p1':(c.bU.length:Int)=(A:Int):=by omega
 have p2':(c.aX.length:Int)=(A:Int):=by omega
 rw [aT (s0:=((0:Int),(0:Int),L.map (·.1),L.map (·.2),c.U,c.ay,c.aa,c.bU,c.aX,[c.bU,c.aX])) (fun k:Nat=>(((k*A:Nat):Int),(k:Int),L.map (·.1),L.map (·.2),c.U,c.ay,c.aa,c.bU,c.aX,[c.bU,c.aX])) 2 (show 2 < 2 ^ 64 by omega)
  (((2*A:Nat):Int),L.map (·.1),L.map (·.2),c.U,c.ay,c.aa,c.bU,c.aX,[c.bU,c.aX]) (by simp) (fun k hk=>by
    dsimp only;have hk2:k=0\/k=1:=by omega
    rcases hk2 with rfl | rfl
    ·rw [show decide (((0:Nat):Int) < 2)=true from rfl,cond_true,show idx [c.bU,c.aX] ((0:Nat):Int)=some c.bU from rfl];simp only [za,dB];rw [p1',bA (by omega) (by omega),bg (by omega),cond_false];simp only [Nat.zero_mul,zaD,zb2];rw [show ((0:Nat):Int)+(A:Int)=(A:Int) by omega];rfl
    ·rw [show decide (((1:Nat):Int) < 2)=true from rfl,cond_true,show idx [c.bU,c.aX] ((1:Nat):Int)=some c.aX from rfl];simp only [za,dB];rw [p2',bA (by omega) (by omega),bg (by omega),cond_false];rw [show ((1*A:Nat):Int)+(A:Int)=(((1+1)*A:Nat):Int) by omega];rfl) (by
    dsimp only;rw [show decide (((2:Nat):Int) < 2)=false from rfl,cond_false,dB])]
 simp only [za,dB];rw [bg (show ¬ ((2*A:Nat):Int) < 0 by omega),cond_false,show ct .i64 0 0=0 from rfl,dI (by omega) (by omega),decide_eq_true (show ((2*A:Nat):Int) - 0 > 0 by omega),cond_true];unfold Qx;rw [if_pos (by omega)];simp only [za,if_true];rw [aT (s0:=((0:Int),L.map (·.1),L.map (·.2),c.U,c.ay,c.aa,c.bU,c.aX,[c.bU,c.aX],([]:List Int))) (fun k:Nat=>((k:Int),L.map (·.1),L.map (·.2),c.U,c.ay,c.aa,c.bU,c.aX,[c.bU,c.aX],(if k=0 then [] else if k=1 then c.bU else c.bU++c.aX))) 2 (show 2 < 2 ^ 64 by omega)
  (L.map (·.1),L.map (·.2),c.U,c.ay,c.aa,c.bU,c.aX,[c.bU,c.aX],c.bU++c.aX) (by simp) (fun k hk=>by
   dsimp only;have hk2:k=0\/k=1:=by omega
   rcases hk2 with rfl | rfl
   ·rw [show decide (((0:Nat):Int) < (([c.bU,c.aX]:List (List Int)).length:Int))=true from rfl,cond_true,show idx [c.bU,c.aX] ((0:Nat):Int)=some c.bU from rfl];simp only [za,dB];rw [if_pos trivial,aM (by simp;omega) (by simp;omega)];rfl
   ·rw [show decide (((1:Nat):Int) < (([c.bU,c.aX]:List (List Int)).length:Int))=true from rfl,cond_true,show idx [c.bU,c.aX] ((1:Nat):Int)=some c.aX from rfl];simp only [za,dB];simp only [if_neg (show ¬ (1:Nat)=0 by omega),if_true];rw [aM (by omega) (by omega)];rfl) (by
   dsimp only;rw [show decide (((2:Nat):Int) < (([c.bU,c.aX]:List (List Int)).length:Int))=false from rfl,cond_false,dB];rfl)]
 simp only [za];rw [SQ h _ (by rw [za8];omega)]
 cases (c.bU++c.aX).any (yL (fl c+c.aa.length))
 ·exact ⟨0,rfl,rfl⟩
 ·exact ⟨6,rfl,rfl⟩
end ck
end
section
namespace ck
open Go Go.Pl
theorem EK {c:an} (h:Ut c=some 0):cG c:=by
 unfold Ut at h;by_cases h1:c.U < 1
 ·rw [bw h1] at h;exact absurd h (by simp)
 rw [bg h1,cond_false,za] at h;by_cases h2:c.U > 6
 ·rw [decide_eq_true h2] at h;exact absurd h (by simp)
 rw [decide_eq_false h2,cond_false] at h;by_cases h3:(c.ay.length:Int) > 16
 ·rw [decide_eq_true h3] at h;exact absurd h (by simp)
 rw [decide_eq_false h3,cond_false,za] at h;by_cases h4:(c.aa.length:Int) > 64
 ·rw [decide_eq_true h4] at h;exact absurd h (by simp)
 exact ⟨by omega,by omega,by omega,by omega⟩
theorem Dm (l:List Int) (n:Int) (hl:l.length < 2 ^ 62):nO l n=some (l.any fun v=>decide (v < 0)||decide (v≥n)):=by
 unfold nO wX;rw [bp (s0:=(0:Int)) (fun k:Nat=>(k:Int)) (fun k=>(l[k]?).bind fun v=>if decide (v < 0)||decide (v≥n) then some (k:Int) else none) l.length (show l.length < 2 ^ 64 by omega) () rfl (fun k hk _=>by
  rw [bw (show ((k:Nat):Int) < (l.length:Int) by omega),cond_true,ax hk,za1 hk,aq (by omega)];unfold U5;dsimp only [Option.bind]
  cases decide (l[k] < 0)<;>cases decide (l[k]≥n)<;>rfl) (fun _=>by rw [bg (by omega),cond_false])]
 cases hf:first l.length (fun k=>(l[k]?).bind fun v=>if decide (v < 0)||decide (v≥n) then some (k:Int) else none) with
 | none=>
  have:(l.any fun v=>decide (v < 0)||decide (v≥n))=false:=zbd.2 fun x hx hn=>by
   obtain ⟨i,hi,rfl⟩:=zaE hx;have:=bC.1 hf i hi;rw [za1 hi] at this;dsimp only [Option.bind] at this;rw [if_pos hn] at this;cases this
  rw [this];rfl
 | some r=>
  obtain ⟨k,hk,hr⟩:=zae hf;have hk:=zac.1 hk;rw [za1 hk] at hr;dsimp only [Option.bind] at hr;split at hr
  ·rename_i hn;injection hr with hr;subst hr
   rw [zbq.2 ⟨l[k],zax hk,hn⟩];show some (decide ((k:Int)≥0))=_;rw [decide_eq_true (by omega)]
  ·cases hr
theorem Dn {ρ:Type} (p:Int->Bool) (r:ρ):∀ l:List Int,l.findSome? (fun v=>if p v then some r else none)=if l.any p then some r else none
 | []=>rfl
 | x::l=>by
  rw [zaY,Dn p r l,zc1]
  cases p x<;>rfl
theorem oA (l:List Int) (n:Int) (hl:l.length < 2 ^ 62):iter (fun s2:Int=>((bif (decide (s2 < (l.length:Int))) then ((idx l s2).bind fun v5=>(bif (decide (v5 < 0)) then some true else (idx l s2).bind fun v6=>some (decide (v6≥n))):Option (Bool)).bind fun w4=>(bif w4 then some (.inr (.inr 1)) else some (.inl (aE .i64 s2 1))) else some (.inr (.inl ()))):Option ((Int)⊕((Unit)⊕Int)))) 0=some (if (l.any fun v=>decide (v < 0)||decide (v≥n)) then .inr 1 else .inl ()):=by
 rw [dY (s0:=(0:Int)) l (fun v=>if decide (v < 0)||decide (v≥n) then some (1:Int) else none) (show l.length < 2 ^ 64 by omega) () rfl (fun k hk=>by
  rw [bw (show ((k:Nat):Int) < (l.length:Int) by omega),cond_true,ax hk,aq (by omega)];dsimp only [Option.bind]
  cases decide (l[k] < 0)<;>cases decide (l[k]≥n)<;>rfl) (by rw [bg (by omega),cond_false]),Dn]
 cases (l.any fun v=>decide (v < 0)||decide (v≥n))<;>rfl
structure Fit (c:an) (x:bM):Prop where
 e:(x.Ends.length:Int)=c.U
 v:(x.iW.length:Int)=c.U
 i:x.ay.length=c.ay.length
 s:x.cu.length=c.aa.length
 t:x.aV.length=c.aa.length
theorem Rv {c:an} (h:cG c) (x:bM):∃ e,m94 c x=some e/\CO c x=some e/\(e=0->Fit c x):=by
 unfold m94 CO;have:=h.a1;have:=h.a6;have:=h.i;have:=h.s;by_cases h1:(x.Ends.length:Int)=c.U
 case neg=>
  rw [show ((x.Ends.length:Int) !=c.U)=true from bne_iff_ne.2 h1];exact ⟨8,rfl,rfl,fun h=>by cases h⟩
 rw [show ((x.Ends.length:Int) !=c.U)=false from by rw [h1];exact bne_self_eq_false _,cond_false];by_cases h2:(x.iW.length:Int)=c.U
 case neg=>
  rw [show ((x.iW.length:Int) !=c.U)=true from bne_iff_ne.2 h2];exact ⟨8,rfl,rfl,fun h=>by cases h⟩
 rw [show ((x.iW.length:Int) !=c.U)=false from by rw [h2];exact bne_self_eq_false _,cond_false];by_cases h3:(x.ay.length:Int)=(c.ay.length:Int)
 case neg=>
  rw [show ((x.ay.length:Int) !=(c.ay.length:Int))=true from bne_iff_ne.2 h3];exact ⟨8,rfl,rfl,fun h=>by cases h⟩
 rw [show ((x.ay.length:Int) !=(c.ay.length:Int))=false from by rw [h3];exact bne_self_eq_false _,cond_false];by_cases h4:(x.cu.length:Int)=(c.aa.length:Int)
 case neg=>
  rw [show ((x.cu.length:Int) !=(c.aa.length:Int))=true from bne_iff_ne.2 h4];exact ⟨8,rfl,rfl,fun h=>by cases h⟩
 rw [show ((x.cu.length:Int) !=(c.aa.length:Int))=false from by rw [h4];exact bne_self_eq_false _,cond_false];by_cases h5:(x.aV.length:Int)=(c.aa.length:Int)
 case neg=>
  rw [show ((x.aV.length:Int) !=(c.aa.length:Int))=true from bne_iff_ne.2 h5];exact ⟨8,rfl,rfl,fun h=>by cases h⟩
 rw [show ((x.aV.length:Int) !=(c.aa.length:Int))=false from by rw [h5];exact bne_self_eq_false _,za,za,cond_false,cond_false];rw [Dm _ _ (by omega),Dm _ _ (by omega),oA _ _ (by omega),oA _ _ (by omega)];have F:Fit c x:=⟨h1,h2,by omega,by omega,by omega⟩
 cases x.Ends.any fun v=>decide (v < 0)||decide (v≥4)
 case true=>exact ⟨1,rfl,rfl,fun h=>by cases h⟩
 cases x.aV.any fun v=>decide (v < 0)||decide (v≥3)
 case true=>exact ⟨1,rfl,rfl,fun h=>by cases h⟩
 rw [za,cond_false,za,za,cond_false,if_neg (by simp)];rw [za,Sum.elim_inl,za,Sum.elim_inl];let g:Nat->Option Int:=fun j=>(c.aa[j]?).bind fun s=>(x.aV[j]?).bind fun t=>(x.cu[j]?).bind fun v=>if (bif s.Kind==2 then ((v==(t==2)) !=true) else t !=0) then some 14 else none
 have hg:∀ (j:Nat) (h1:j < c.aa.length) (h2:j < x.aV.length) (h3:j < x.cu.length),g j=if (bif c.aa[j].Kind==2 then ((x.cu[j]==(x.aV[j]==2)) !=true) else x.aV[j] !=0) then some 14 else none:=fun j h1 h2 h3=>by
  show (c.aa[j]?).bind _=_;rw [za1 h1];show (x.aV[j]?).bind _=_;rw [za1 h2];show (x.cu[j]?).bind _=_;rw [za1 h3];rfl
 rw [bp (s0:=(0:Int)) (fun k:Nat=>(k:Int)) g x.aV.length (show x.aV.length < 2 ^ 64 by omega) () rfl (fun k hk _=>by
  rw [bw (show ((k:Nat):Int) < (x.aV.length:Int) by omega),cond_true,ax hk,ax (show k < c.aa.length by omega),ax (show k < x.cu.length by omega),aq (by omega),hg k (by omega) hk (by omega)];dsimp only [Option.bind]
  cases c.aa[k].Kind==2
  ·cases x.aV[k] !=0<;>rfl
  ·cases (x.cu[k]==(x.aV[k]==2)) !=true<;>rfl) (fun _=>by rw [bg (by omega),cond_false])]
 rw [bp (s0:=(0:Int)) (fun k:Nat=>(k:Int)) g x.aV.length (show x.aV.length < 2 ^ 64 by omega) () rfl (fun k hk _=>by
  rw [bw (show ((k:Nat):Int) < (x.aV.length:Int) by omega),cond_true,ax hk,ax (show k < c.aa.length by omega),ax (show k < x.cu.length by omega),aq (by omega),hg k (by omega) hk (by omega)];dsimp only [Option.bind]
  cases c.aa[k].Kind==2
  ·cases x.aV[k] !=0<;>rfl
  ·cases (x.cu[k]==(x.aV[k]==2)) !=true<;>rfl) (fun _=>by rw [bg (by omega),cond_false])]
 cases first x.aV.length g with
 | none=>exact ⟨0,rfl,rfl,fun _=>F⟩
 | some r=>exact ⟨r,rfl,rfl,fun _=>F⟩
theorem NF (c:an) (ht:vX c) (x:bM):∃ e,Yr c x=some e/\m77 c x=some e/\(e=0->cG c/\Fit c x):=by
 obtain ⟨e,h1,h2⟩:=Dl c ht;unfold Yr m77;rw [h1,h2,za,za];by_cases he:e=0
 ·subst he;have h:=EK h2;obtain ⟨v,h3,h4,h5⟩:=Rv h x;rw [h3,h4];exact ⟨v,rfl,rfl,fun h0=>⟨h,h5 h0⟩⟩
 ·rw [show (e !=0)=true from bne_iff_ne.2 he];exact ⟨e,rfl,rfl,fun h0=>(he h0).elim⟩
def vals (x:bM):List Bool:=(x.Ends.flatMap fun v=>[v==0,v==2])++x.ay++x.cu
theorem iM (l:List Int):(l.flatMap fun v=>[v==0,v==2]).length=2*l.length:=by
 induction l with
 | nil=>rfl
 | cons a l ih=>rw [zb0,za8,ih,zaK];simp;omega
theorem zS {α β:Type} (f:α->List β) (l:List α) (k:Nat) (h:k < l.length):(l.take (k+1)).flatMap f=(l.take k).flatMap f++f l[k]:=by
 rw [zb8,za1 h,List.flatMap_append];simp
theorem V9 {c:an} (h:cG c) {x:bM} (F:Fit c x):XW c x=some (vals x):=by
 have:=h.a1;have:=h.a6;have:=h.i;have:=h.s;have:=F.e;have:=F.i;have:=F.s;unfold XW;rw [aT (s0:=((0:Int),([]:List Bool))) (fun k:Nat=>((k:Int),(x.Ends.take k).flatMap fun v=>[v==0,v==2])) x.Ends.length (show x.Ends.length < 2 ^ 64 by omega) (x.Ends.flatMap fun v=>[v==0,v==2]) (by simp) (fun k hk=>by
  dsimp only;have e:=iM (x.Ends.take k);rw [zbc] at e;rw [bw (by omega),cond_true,ax hk];dsimp only [Option.bind];rw [aM (by rw [e];simp;omega) (by rw [e];simp;omega),aq (by omega),zS _ _ _ hk]) (by
  dsimp only;rw [bg (by omega),cond_false,zbr])]
 have e:=iM x.Ends;rw [za,aM (by omega) (by omega),za,aM (by rw [za8];omega) (by rw [za8];omega)];rfl
end ck
end
section
namespace ck
open Go Go.Pl
def sD (n:Int) (l:List ai):Prop:=∀ (j:Nat) (h:j < l.length),∃ i:Int,l[j]=bq i/\0<=i/\i < n
inductive Flat (n:Int):ai->Prop
 | line (i:Int) (h0:0<=i) (h1:i < n):Flat n (bq i)
 | Qn (i:Int) (h0:0<=i) (h1:i < n):Flat n ⟨2,0,[bq i]⟩
 | some (op:Int) (l:List ai) (ho:op=3\/op=4) (h2:2<=l.length) (h6:l.length<=64) (hl:sD n l):Flat n ⟨op,0,l⟩
theorem sD.mono {n m:Int} {l:List ai} (h:sD n l) (hn:n<=m):sD m l:=fun j hj=>by
 obtain ⟨i,h1,h2,h3⟩:=h j hj;exact ⟨i,h1,h2,by omega⟩
theorem Flat.mono {n m:Int} {x:ai} (h:Flat n x) (hn:n<=m):Flat m x:=by
 cases h with
 | line i h0 h1=>exact .line i h0 (by omega)
 | Qn i h0 h1=>exact .Qn i h0 (by omega)
 | some op l ho h2 h6 hl=>exact .some op l ho h2 h6 (hl.mono hn)
theorem sD.tail {n:Int} {x:ai} {l:List ai} (h:sD n (x::l)):sD n l:=fun j hj=>h (j+1) (by simpa using hj)
theorem DV (i:Int):ud (bq i)=1:=by rw [jM];rfl
theorem Ag (i:Int):gu (bq i)=1:=by rw [fO];rfl
theorem xC {n:Int}:∀ {l:List ai},sD n l->ef l=l.length
 | [],_=>rfl
 | x::l,h=>by
  obtain ⟨i,h1,_⟩:=h 0 (by simp);have h1:x=bq i:=h1;rw [ef,xC h.tail,h1,DV,zaK];omega
theorem Ah {n:Int} {l:List ai} (h:sD n l):lA l<=1:=(fh l).2 fun j hj=>by
 obtain ⟨i,h1,_⟩:=h j hj;rw [h1,Ag];exact za7 _
theorem sD.one {n i:Int} (h0:0<=i) (h1:i < n):sD n [bq i]:=fun j hj=>by
 have:j=0:=by simpa using hj
 subst this;exact ⟨i,rfl,h0,h1⟩
theorem Flat.size {n:Int} {x:ai} (h:Flat n x):ud x<=256/\gu x<=16:=by
 cases h with
 | line i h0 h1=>rw [DV,Ag];omega
 | Qn i h0 h1=>
  rw [jM,fO];have hl:sD n [bq i]:=sD.one h0 h1;have:=Ah hl;have:=xC hl;show 1+ef [bq i]<=256/\1+lA [bq i]<=16;rw [this];simp;omega
 | some op l ho h2 h6 hl=>
  rw [jM,fO];have:=Ah hl;have:=xC hl;show 1+ef l<=256/\1+lA l<=16;omega
theorem J4 {n i:Int} (h0:0<=i) (h1:i < n):qL (bq i) n=some 0:=by
 unfold qL bq;dsimp only;simp only [j7,za];simp [show ¬ i < 0 by omega,show ¬ n<=i by omega]
theorem OX {n:Int} {x:ai}:qL ⟨2,0,[x]⟩ n=some 0:=by
 unfold qL;dsimp only;simp only [j7,za];simp
theorem OY {n op:Int} {l:List ai} (ho:op=3\/op=4) (h2:2<=l.length):qL ⟨op,0,l⟩ n=some 0:=by
 have:¬ (l.length:Int) < 2:=by omega
 rcases ho with rfl | rfl<;>
 ·unfold qL;dsimp only;simp only [j7,za];simp [this]
theorem yf {n i:Int} (k:Nat) (h0:0<=i) (h1:i < n):ld (k+1) (bq i) n=some 0:=by
 show Bg (ld k) (bq i) n=some 0;unfold Bg;rw [eta,J4 h0 h1];dsimp only [Option.bind];rw [show ((0:Int) !=0)=false from rfl,cond_false];rw [jP 0 (by decide) (fun k hk=>by omega) rfl];rfl
theorem Ai {n op:Int} {l:List ai} (k:Nat) (hn:qL ⟨op,0,l⟩ n=some 0) (h6:l.length<=64) (hl:sD n l):ld (k+2) ⟨op,0,l⟩ n=some 0:=by
 show Bg (ld (k+1)) ⟨op,0,l⟩ n=some 0;unfold Bg;rw [eta,hn];dsimp only [Option.bind];rw [show ((0:Int) !=0)=false from rfl,cond_false];rw [jP l.length (show l.length < 2 ^ 64 by omega) (fun j hj=>by
  obtain ⟨i,h1,h2,h3⟩:=hl j hj;rw [bw (show ((j:Nat):Int) < (l.length:Int) by omega),cond_true,ax hj];dsimp only [Option.bind];rw [eta,h1,yf k h2 h3,aq (by omega)];rfl) (by rw [bg (by omega),cond_false])]
 rfl
theorem qh {n:Int} (h0:0<=n) (h1:n<=256) {x:ai} (h:Flat n x):uR x n=some 0:=by
 have hs:=h.size;have hn:ld fuel x n=some 0:=by
  rw [show fuel=18446744073709551614+2 from rfl]
  cases h with
  | line i h0 h1=>exact yf _ h0 h1
  | Qn i h0 h1=>exact Ai _ OX (by simp) (sD.one h0 h1)
  | some op l ho h2 h6 hl=>exact Ai _ (OY ho h2) h6 hl
 unfold uR;rw [bg (by omega),cond_false,za,decide_eq_false (by omega),cond_false,eta,rZ,decide_eq_true hs,za,zb1,cond_false];show (ld fuel x n).bind _=_;rw [hn];rfl
theorem r9 {i:Int} {v:List Bool} (h0:0<=i) (h1:i < v.length):∃ b,idx v i=some b:=by
 obtain ⟨h,e⟩:=kL h0 h1;exact ⟨_,e⟩
theorem rD (k:Nat) {i:Int} {v:List Bool} {b:Bool} (h:idx v i=some b):vM (k+1) (bq i) v=some b/\Bh (k+1) (bq i) v=some b:=by
 constructor
 ·show FO (vM k) (bq i) v=some b;unfold FO bq;dsimp only;rw [show ((1:Int)==0)=false from rfl,show ((1:Int)==1)=true from rfl,cond_false,cond_true,h];rfl
 ·show FQ (Bh k) (bq i) v=some b;unfold FQ bq;dsimp only;rw [show ((1:Int)==0)=false from rfl,show ((1:Int)==1)=true from rfl,cond_false,cond_true,h];rfl
def lv (v:List Bool) (x:ai):Bool:=(idx v x.Index).getD false
theorem IQ {v:List Bool} {l:List ai} (hl:sD (v.length:Int) l) {j:Nat} (hj:j < l.length):∃ i:Int,l[j]=bq i/\idx v i=some (lv v l[j]):=by
 obtain ⟨i,h1,h2,h3⟩:=hl j hj;obtain ⟨b,hb⟩:=r9 h2 h3;refine ⟨i,h1,?_⟩;rw [hb];unfold lv;rw [h1];show some b=some ((idx v i).getD false);rw [hb];rfl
theorem xD (k:Nat) (p q:Int) {v:List Bool} {l:List ai} (hl:sD (v.length:Int) l) (h6:l.length<=64) (c:Bool):lH (vM (k+1)) p q l v c=some (l.all fun x=>lv v x==c):=by
 unfold lH;rw [bp (s0:=((0:Int),false)) (fun j:Nat=>((j:Int),false)) (fun j=>(l[j]?).bind fun x=>if (lv v x==c)=true then none else some false) l.length (show l.length < 2 ^ 64 by omega) false rfl (fun j hj _=>by
  obtain ⟨i,h1,h2⟩:=IQ hl hj;dsimp only;rw [bw (show ((j:Nat):Int) < (l.length:Int) by omega),cond_true,ax hj,za1 hj];dsimp only [Option.bind];rw [eta];have h3:=(rD k h2).1;rw [<-h1] at h3;rw [h3,aq (by omega)];dsimp only
  cases lv v l[j]==c<;>rfl) (fun _=>by
  dsimp only;rw [bg (by omega),cond_false])]
 cases hf:first l.length (fun j=>(l[j]?).bind fun x=>if (lv v x==c)=true then none else some false) with
 | none=>
  have:(l.all fun x=>lv v x==c)=true:=zaf.2 fun x hx=>by
   obtain ⟨j,hj,rfl⟩:=zaE hx;have:=bC.1 hf j hj;rw [za1 hj] at this;dsimp only [Option.bind] at this
   cases hb:lv v l[j]==c with
   | true=>rfl
   | false=>rw [hb] at this;cases this
  rw [this];rfl
 | some r=>
  obtain ⟨j,hj,hr⟩:=zae hf;have hj:=zac.1 hj;rw [za1 hj] at hr;dsimp only [Option.bind] at hr;have:(l.all fun x=>lv v x==c)=false:=by
   cases ha:l.all fun x=>lv v x==c with
   | false=>rfl
   | true=>
    have:=zaf.1 ha _ (zax hj);rw [if_pos this] at hr;cases hr
  split at hr
  ·cases hr
  ·injection hr with hr;subst hr;rw [this];rfl
def fv (v:List Bool) (x:ai):Bool:=if x.Op=1 then lv v x else if x.Op=2 then !(match x.au with | y::_=>lv v y | []=>false) else if x.Op=3 then x.au.all (lv v) else x.au.any (lv v)
theorem abd {v:List Bool} (l:List ai):(l.all fun x=>lv v x==true)=l.all (lv v):=by
 congr 1;funext x;cases lv v x<;>rfl
theorem TW {v:List Bool} (l:List ai):(l.all fun x=>lv v x==false)= !l.any (lv v):=by
 induction l with
 | nil=>rfl
 | cons x l ih=>rw [zbI,zc1,ih];cases lv v x<;>rfl
theorem eval_eq {v:List Bool} {x:ai} (h:Flat (v.length:Int) x):Vd x v=some (fv v x):=by
 show vM (18446744073709551614+2) x v=_
 cases h with
 | line i h0 h1=>
  obtain ⟨b,hb⟩:=r9 h0 h1;rw [(rD _ hb).1];show some b=some ((idx v i).getD false);rw [hb];rfl
 | Qn i h0 h1=>
  show FO (vM (18446744073709551613+2)) ⟨2,0,[bq i]⟩ v=_;unfold FO;dsimp only;rw [xD _ _ _ (sD.one h0 h1) (by simp),TW];show some (!(lv v (bq i)||false))=some (!lv v (bq i));rw [Bool.or_false]
 | some op l ho h2 h6 hl=>
  show FO (vM (18446744073709551613+2)) ⟨op,0,l⟩ v=_;unfold FO xj;dsimp only;rw [xD _ _ _ hl h6,xD _ _ _ hl h6,abd,TW];rcases ho with rfl | rfl
  ·rfl
  ·show some (!(!l.any (lv v)))=some (l.any (lv v));rw [Bool.not_not]
theorem J5 (k:Nat) {v:List Bool} {l:List ai} (hl:sD (v.length:Int) l) (h6:l.length<=64):
 iter (fun s4:Bool×Bool×Int=>((bif (decide (s4.2.2 < (l.length:Int))) then (idx l s4.2.2).bind fun v6=>(Bh (k+1) (⟨v6.Op,v6.Index,v6.au⟩:ai) v).bind fun v7=>((bif s4.1 then (bif s4.2.1 then some (v7,true) else some (v7,v7)) else (bif s4.2.1 then some (false,true) else some (false,v7))):Option (Bool×Bool)).bind fun w8=>some (.inl (w8.1,w8.2,(aE .i64 s4.2.2 1))) else some (.inr (s4.1,s4.2.1))):Option ((Bool×Bool×Int)⊕(Bool×Bool)))) (true,false,0)=some (l.all (lv v),l.any (lv v)):=by
 rw [aT (s0:=(true,false,(0:Int))) (fun j:Nat=>((l.take j).all (lv v),(l.take j).any (lv v),(j:Int))) l.length (show l.length < 2 ^ 64 by omega) (l.all (lv v),l.any (lv v)) (by simp) (fun j hj=>by
  obtain ⟨i,h1,h2⟩:=IQ hl hj;dsimp only;rw [bw (show ((j:Nat):Int) < (l.length:Int) by omega),cond_true,ax hj];dsimp only [Option.bind];rw [eta];have h3:=(rD k h2).2;rw [<-h1] at h3;rw [h3,aq (by omega),zb8,za1 hj,List.all_append,List.any_append];show (((bif (l.take j).all (lv v) then _ else _):Option (Bool×Bool)).bind _)=some (Sum.inl ((l.take j).all (lv v)&&(lv v l[j]&&true),(l.take j).any (lv v)||(lv v l[j]||false),_))
  cases (l.take j).all (lv v)<;>cases (l.take j).any (lv v)<;>cases lv v l[j]<;>rfl) (by dsimp only;rw [bg (by omega),cond_false,zbr])]
theorem OJ {v:List Bool} {x:ai} (h:Flat (v.length:Int) x):Lg x v=some (fv v x):=by
 show Bh (18446744073709551614+2) x v=_
 cases h with
 | line i h0 h1=>
  obtain ⟨b,hb⟩:=r9 h0 h1;rw [(rD _ hb).2];show some b=some ((idx v i).getD false);rw [hb];rfl
 | Qn i h0 h1=>
  obtain ⟨b,hb⟩:=r9 h0 h1;show FQ (Bh (18446744073709551614+1)) ⟨2,0,[bq i]⟩ v=_;unfold FQ;dsimp only;rw [show ((2:Int)==0)=false from rfl,show ((2:Int)==1)=false from rfl,show ((2:Int)==2)=true from rfl,cond_false,cond_false,cond_true,show idx [bq i] 0=some (bq i) from rfl,za,eta,(rD _ hb).2];show some (!b)=some (!((idx v i).getD false));rw [hb];rfl
 | some op l ho h2 h6 hl=>
  show FQ (Bh (18446744073709551614+1)) ⟨op,0,l⟩ v=_;unfold FQ;dsimp only;rw [J5 _ hl h6];rcases ho with rfl | rfl
  ·show _=some (l.all (lv v))
   cases l.all (lv v)<;>rfl
  ·rfl
theorem OI {v:List Bool} {x:ai} (h:Flat (v.length:Int) x) (hv:v.length<=256):JH x v=some (fv v x,0):=by
 unfold JH;rw [eta,BO,qh (by omega) (by omega) h,za,show ((0:Int) !=0)=false from rfl,cond_false,eval_eq h];rfl
end ck
end
section
namespace ck
open Go Go.Pl
theorem xl {b:Bool} {a:Nat}:∀ (l:List bS) (e:Nat->Bool),(∀ y∈l,y.aj=(a:Int)->y.Out=b)->e a=b->o7 l e a=b
 | [],e,_,h=>h
 | y::l,e,hl,h=>by
  show o7 l (fun c=>if y.aj=(c:Int) then y.Out else e c) a=b;refine xl l _ (fun z hz=>hl z (zau _ hz)) ?_;show (if y.aj=(a:Int) then y.Out else e a)=b;split
  ·exact hl y (zaP ..) ‹_›
  ·exact h
theorem Iy {b:Bool} {a:Nat}:∀ (l:List bS) (e:Nat->Bool),(∀ y∈l,y.aj=(a:Int)->y.Out=b)->(∃ y∈l,y.aj=(a:Int))->o7 l e a=b
 | [],e,_,⟨y,hy,_⟩=>by cases hy
 | y::l,e,hl,⟨z,hz,ha⟩=>by
  show o7 l (fun c=>if y.aj=(c:Int) then y.Out else e c) a=b;have hl':∀ x∈l,x.aj=(a:Int)->x.Out=b:=fun x hx=>hl x (zau _ hx)
  rcases zad.1 hz with rfl | hz
  ·refine xl l _ hl' ?_;show (if z.aj=(a:Int) then z.Out else e a)=b;rw [if_pos ha];exact hl z (zaP ..) ha
  ·exact Iy l _ hl' ⟨z,hz,ha⟩
structure Rt (s:af):Prop extends Good s where
 YB:∀ i (h:i < s.Steps.length),MO s s.Steps[i]/\uj s.Steps[i] (ends s i)=false
 home:∀ a:Nat,(a:Int) < s.U->ends s s.Steps.length a=false
 goes:∀ a:Nat,(a:Int) < s.U->fD s s.Steps.length a=true
theorem Bs {s:af} (h:yO s=0):Rt s:=by
 have hg:=xm h;unfold yO at h;split at h
 ·omega
 split at h
 ·omega
 split at h
 ·omega
 split at h
 ·rename_i r hr;exfalso;subst h;unfold first at hr
  obtain ⟨k,_,hk⟩:=zae hr;unfold nv at hk;split at hk
  ·simp at hk
  ·split at hk
   ·rename_i h;injection hk with hk;exact h hk
   ·simp at hk
 ·rename_i hf;rw [bC] at hf;split at h
  ·cases h
  rename_i hh;split at h
  case isFalse=>cases h
  rename_i hm;refine ⟨hg,fun i hi=>oC hi (hf i hi),fun a ha=>?_,fun a ha=>zaf.1 hm a (zac.2 (by omega))⟩
  cases he:ends s s.Steps.length a with
  | false=>rfl
  | true=>exact (hh (zbq.2 ⟨a,zac.2 (by omega),he⟩)).elim
theorem tD {s:af} {a:Nat} {b:Bool} (hb:∀ i (h:i < s.Steps.length),∀ y∈s.Steps[i].ah,y.aj=(a:Int)->y.Out=b) {j:Nat}:∀ k,j<=k->k<=s.Steps.length->ends s j a=b->ends s k a=b
 | 0,h,_,h0=>by have:j=0:=by omega
                subst this;exact h0
 | k+1,h,hk,h0=>by
  by_cases e:j=k+1
  ·subst e;exact h0
  rw [iw (by omega)];exact xl _ _ (hb k (by omega)) (tD hb k (by omega) (by omega) h0)
theorem Rt.both {s:af} (h:Rt s) {a:Nat} (ha:(a:Int) < s.U) (o:Bool):∃ (k:Nat) (hk:k < s.Steps.length),s.Steps[k].ah.any (hit a o)=true:=by
 apply zbk
 intro hno;have hb:∀ i (hi:i < s.Steps.length),∀ y∈s.Steps[i].ah,y.aj=(a:Int)->y.Out= !o:=fun i hi y hy e=>by
  by_cases hv:y.Out=o
  ·exact (hno ⟨i,hi,zbq.2 ⟨y,hy,by unfold hit;rw [hv,e,beq_self_eq_true,beq_self_eq_true];rfl⟩⟩).elim
  ·revert hv;generalize y.Out=p
   cases p<;>cases o<;>simp
 have hm:=h.goes a ha;rw [DC s a _ (za7 _),zbr] at hm;obtain ⟨x,hx,hxa⟩:=zbq.1 hm;obtain ⟨k,hk,rfl⟩:=zaE hx;obtain ⟨y,hy,YC⟩:=zbq.1 hxa;have YC:y.aj=(a:Int):=by simpa using YC
 have hyo:=hb k hk y hy YC
 cases o with
 | true=>
  have he:ends s k a=false:=tD hb k (zaO _) (by omega) rfl;have hc:=(h.YB k hk).2;have:uj s.Steps[k] (ends s k)=true:=zbq.2 ⟨y,hy,by
   rw [YC,hyo];show (ends s k a==false)=true;rw [he];rfl⟩
  rw [this] at hc;cases hc
 | false=>
  have he:ends s (k+1) a=true:=by
   rw [iw hk];exact Iy _ _ (hb k hk) ⟨y,hy,YC⟩
  have:=tD hb s.Steps.length (show k+1<=s.Steps.length by omega) (za7 _) he;rw [h.home a ha] at this;cases this
theorem Iz {s:af} {M:List Int} {a:Int} {o:Bool}:∀ (k:Nat) (x:ai),x∈yR s M a o k->∃ (j:Nat) (hj:j < M.length),j < s.Steps.length/\x=bq M[j]
 | 0,x,h=>by cases h
 | k+1,x,h=>by
  rw [yR] at h;rcases zaZ.1 h with h | h
  ·exact Iz k x h
  split at h
  ·rename_i y m hy hm;obtain ⟨YD,hm2⟩:=zab.1 hm;obtain ⟨hy1,_⟩:=zab.1 hy;split at h
   ·simp only [zad,zaV,or_false] at h;exact ⟨k,YD,hy1,by rw [h,hm2]⟩
   ·cases h
  ·cases h
theorem MQ {s:af} {M:List Int} (hM:M.length=s.Steps.length) {a:Int} {o:Bool} {k:Nat} (hk:k < s.Steps.length) (hh:s.Steps[k].ah.any (hit a o)=true):∀ n,k < n->n<=s.Steps.length->yR s M a o n≠[]
 | 0,h,_=>by omega
 | n+1,h,hn=>by
  rw [rU (by omega) (by omega)];by_cases e:k=n
  ·subst e;rw [if_pos hh];simp
  ·have:=MQ hM hk hh n (by omega) (by omega);intro e2;exact this (List.append_eq_nil_iff.1 e2).1
theorem IA {s:af} (k:Nat) (hk:k < (dN s).length):∃ i:Nat,i < s.Steps.length/\(dN s)[k]=fst s+(i:Int):=by
 have hl:(dN s).length=s.Steps.length:=fm;unfold dN at hk ⊢;by_cases h2:s.Steps.length=2
 ·simp only [if_pos h2] at hk ⊢;have:k=0\/k=1:=by simp at hk;omega
  rcases this with rfl | rfl
  ·exact ⟨1,by omega,rfl⟩
  ·exact ⟨0,by omega,by simp⟩
 ·simp only [if_neg h2] at hk ⊢;refine ⟨k,?_,?_⟩
  ·simpa [mods] using hk
  ·simp [mods]
end ck
end
section
namespace ck
open Go Go.Pl
theorem sD.of {n:Int} {l:List ai} (h:∀ x∈l,∃ i:Int,x=bq i/\0<=i/\i < n):sD n l:=fun j hj=>h _ (zax hj)
theorem so {n op:Int} {l:List ai} (ho:op=3\/op=4) (h0:l≠[]) (h6:l.length<=64) (hl:∀ x∈l,∃ i:Int,x=bq i/\0<=i/\i < n):Flat n (sev op l):=by
 match l,h0,h6,hl with
 | [x],_,_,hl=>
  obtain ⟨i,rfl,h1,h2⟩:=hl x (zaP ..);exact .line i h1 h2
 | x::y::l,_,h6,hl=>exact .some op _ ho (by simp) h6 (sD.of hl)
def nL (s:af):Int:=fst s+((cw s).aa.length:Int)
theorem qQ {s:af} (h:Good s):nL s=fst s+(s.Steps.length:Int)+(cnt s s.Steps.length:Int)+2*s.U:=by
 unfold nL;rw [kG h];have:=h.a1;omega
theorem Jn {s:af} (h:Rt s) {k:Nat} (hk:k < s.Steps.length) {x:ai} (hx:x∈s.Steps[k].ah.map zu):∃ i:Int,x=bq i/\0<=i/\i < 2*s.U:=by
 obtain ⟨y,hy,rfl⟩:=zaT.1 hx;obtain ⟨j,hj,rfl⟩:=zaE hy;have h1:=((h.YB k hk).1.ok.act j hj).1;have h2:=(h.YB k hk).1.Qd j hj;refine ⟨_,rfl,?_,?_⟩<;>split<;>omega
theorem Gn {s:af} {k:Nat} (hk:k < s.Steps.length) (hw:s.Steps[k].cX≠0):∀ n,k < n->n<=s.Steps.length->cnt s k < cnt s n
 | 0,h,_=>by omega
 | n+1,h,hn=>by
  have e:=iR (show n < s.Steps.length by omega);by_cases e2:k=n
  ·subst e2;rw [if_neg hw] at e;omega
  ·have:=Gn hk hw n (by omega) (by omega);split at e<;>omega
theorem xV {s:af} (h:Rt s) {k:Nat} (hk:k < s.Steps.length) {x:ai} (hx:x∈pR s (tb s) k):∃ i:Int,x=bq i/\0<=i/\i < nL s:=by
 have hf:=fQ h.a1 h.a6;have hn:=qQ h.toGood;unfold pR at hx;rw [za1 hk] at hx;dsimp only at hx;split at hx
 ·obtain ⟨i,h1,h2,h3⟩:=Jn h hk hx;refine ⟨i,h1,h2,?_⟩;have:fst s=2*s.U+1:=rfl;omega
 ·rename_i hw;simp only [zad,zaV,or_false] at hx;have h1:=B2 (n:=tb s) hk;rw [if_neg hw] at h1;have h2:=Gn hk hw s.Steps.length hk (za7 _);have h3:tb s=fst s+(s.Steps.length:Int):=rfl;have:=h.a1;exact ⟨_,hx,by omega,by omega⟩
structure FZ (n g:Int) (x:aS):Prop where
 on:Flat n x.On
 gate:x.Kind=0->Flat g x.On
 kind:x.Kind=0\/x.Kind=1\/x.Kind=2
 off:x.Kind=1->Flat n x.jc
 U3:x.Kind≠1->x.jc=Tl/\x.Init=false
 del:if x.Kind=2 then 1<=x.dD/\x.dD<=1000000 else x.dD=0
theorem yH {s:af} (h:Good s):∃ i:Int,bq (2*s.U)=bq i/\0<=i/\i < nL s:=by
 have hn:=qQ h;have:fst s=2*s.U+1:=rfl;have:=h.a1;exact ⟨_,rfl,by omega,by omega⟩
theorem ED {s:af} (h:Good s) {k:Nat} (hk:k < s.Steps.length):∃ i:Int,bq (fst s+(k:Int))=bq i/\0<=i/\i < nL s:=by
 have hn:=qQ h;have hf:=fQ h.a1 h.a6;have:=h.a1;exact ⟨_,rfl,by omega,by omega⟩
theorem P4 {s:af} (h:Good s) {n:Int} {k:Nat} (hk:k < s.Steps.length):pR s n k≠[]:=by
 obtain ⟨y,l,e⟩:=Je h (n:=n) hk;rw [e];simp
theorem Fg {s:af} (h:Rt s) {i:Nat} (hi:i < (chain s).length):FZ (nL s) (fst s+(i:Int)) (chain s)[i]:=by
 have hn0:=h.n0;have VA:=h.n64;have hf:=fQ h.a1 h.a6;unfold chain at hi ⊢;by_cases h2:s.Steps.length=2
 ·simp only [if_pos h2] at hi ⊢;have:i=0\/i=1:=by simp at hi;omega
  rcases this with rfl | rfl
  ·have e0:=j4 h.toGood (n:=tb s) (k:=0) (by omega);have e1:=j4 h.toGood (n:=tb s) (k:=1) (by omega);refine ⟨so (.inl rfl) (P4 h.toGood (by omega)) (by omega) fun x hx=>xV h (by omega) hx,nofun,.inr (.inl rfl),fun _=>?_,fun hn=>(hn rfl).elim,rfl⟩;refine so (.inl rfl) (by simp) (by simp;omega) fun x hx=>?_
   rcases zaZ.1 hx with hx | hx
   ·exact xV h (by omega) hx
   ·simp only [zad,zaV,or_false] at hx;rw [hx];exact yH h.toGood
  ·have hg:Flat (fst s+((1:Nat):Int)) (⟨2,0,[bq (fst s)]⟩:ai):= .Qn _ (by omega) (by omega);have hn:=qQ h.toGood;have:=h.a1;exact ⟨hg.mono (by omega),fun _=>hg,.inl rfl,nofun,fun _=>⟨rfl,rfl⟩,rfl⟩
 ·simp only [if_neg h2] at hi ⊢;have hi':i < s.Steps.length:=by simpa [dc] using hi
  have e:(dc s s.Steps.length)[i]=qb s i:=by simp [dc]
  rw [e];have m1:(i+s.Steps.length - 1) % s.Steps.length < s.Steps.length:=zc4 _ hn0;have m2:(i+1) % s.Steps.length < s.Steps.length:=zc4 _ hn0;have e0:=j4 h.toGood (n:=tb s) m1;refine ⟨so (.inl rfl) (by simp) ?_ fun x hx=>?_,nofun,.inr (.inl rfl),fun _=>?_,fun hn=>(hn rfl).elim,rfl⟩
  ·simp only [za8,zaK];split<;>simp<;>omega
  ·rcases zaZ.1 hx with hx | hx
   ·rcases zad.1 hx with rfl | hx
    ·exact ED h.toGood m1
    ·exact xV h m1 hx
   ·split at hx
    ·simp only [zad,zaV,or_false] at hx;rw [hx];exact yH h.toGood
    ·cases hx
  ·obtain ⟨j,j1,j2,j3⟩:=ED h.toGood m2;show Flat _ (bq _);rw [j1];exact .line j j2 j3
theorem EE {s:af} (h:Good s) {k:Nat} (hk:k < (dN s).length):0<=(dN s)[k]/\(dN s)[k] < fst s+(s.Steps.length:Int):=by
 obtain ⟨i,h1,h2⟩:=IA k hk;have hf:=fQ h.a1 h.a6;rw [h2];omega
theorem Hh {s:af} (h:Rt s) {x:aS} (hx:x∈eX s (dN s) s.Steps.length) (g:Int):FZ (nL s) g x:=by
 obtain ⟨k,hk,hx⟩:=List.mem_flatMap.1 hx;have hk:=zac.1 hk;have hn:=qQ h.toGood;have ha:=h.a1;unfold kD at hx;rw [za1 hk,za1 (show k < (dN s).length by rw [fm];exact hk)] at hx;dsimp only at hx;split at hx
 ·cases hx
 rename_i hw;simp only [zad,zaV,or_false] at hx;subst hx;have h1:=(h.step k hk).pos;have h2:=(h.step k hk).le;have h3:=(h.step k hk).wait;obtain ⟨p1,p2⟩:=EE h.toGood (show k < (dN s).length by rw [fm];exact hk);refine ⟨.some 3 _ (.inl rfl) (by simp;omega) (by simp;omega) (sD.of fun x hx=>?_),nofun,.inr (.inr rfl),nofun,fun _=>⟨rfl,rfl⟩,?_⟩
 ·rcases zad.1 hx with rfl | hx
  ·exact ⟨_,rfl,p1,by omega⟩
  ·obtain ⟨i,i1,i2,i3⟩:=Jn h hk hx;have:fst s=2*s.U+1:=rfl;exact ⟨i,i1,i2,by omega⟩
 ·show 1<=s.Steps[k].cX/\s.Steps[k].cX<=1000000;omega
theorem Hi {s:af} (h:Rt s) {x:aS} (hx:x∈fk s (dN s) s.U.toNat) {g:Int} (hg:fst s+(s.Steps.length:Int)<=g):FZ (nL s) g x:=by
 have hn:=qQ h.toGood;have ha:=h.a1;have VA:=h.n64;obtain ⟨a,har,hx⟩:=List.mem_flatMap.1 hx;have har:=zac.1 har;have key:∀ o,Flat (fst s+(s.Steps.length:Int)) (sev 4 (yR s (dN s) (a:Int) o s.Steps.length)):=fun o=>by
  obtain ⟨k,hk,hh⟩:=h.both (a:=a) (by omega) o;have hl:=ru s (dN s) (a:Int) o s.Steps.length;refine so (.inr rfl) (MQ fm hk hh _ hk (za7 _)) (by omega) fun x hx=>?_
  obtain ⟨j,hj,_,rfl⟩:=Iz _ x hx;obtain ⟨p1,p2⟩:=EE h.toGood hj;exact ⟨_,rfl,p1,p2⟩
 have fin:∀ o,FZ (nL s) g (ie s (dN s) a o):=fun o=>⟨(key o).mono (by omega),fun _=>(key o).mono hg,.inl rfl,nofun,fun _=>⟨rfl,rfl⟩,rfl⟩
 simp only [zad,zaV,or_false] at hx;rcases hx with rfl | rfl
 ·exact fin true
 ·exact fin false
theorem Jo {α:Type} {P:Nat->α->Prop} {l m:List α} (h1:∀ (i:Nat) (h:i < l.length),P i l[i]) (h2:∀ (i:Nat) (h:i < m.length),P (l.length+i) m[i]) (i:Nat) (h:i < (l++m).length):P i (l++m)[i]:=by
 by_cases hi:i < l.length
 ·rw [zaU hi];exact h1 i hi
 ·rw [zaQ (by omega)];have h3:=h2 (i - l.length) (by rw [za8] at h;omega)
  rwa [show l.length+(i - l.length)=i by omega] at h3
theorem qg {s:af} (h:Rt s) {i:Nat} (hi:i < (cw s).aa.length):FZ (nL s) (fst s+(i:Int)) (cw s).aa[i]:=
 Jo (l:=base s) (m:=fk s (dN s) s.U.toNat) (P:=fun i x=>FZ (nL s) (fst s+(i:Int)) x)
  (Jo (l:=chain s) (m:=eX s (dN s) s.Steps.length) (P:=fun i x=>FZ (nL s) (fst s+(i:Int)) x) (fun i hi=>Fg h hi) (fun i hi=>Hh h (zax _) _))
  (fun i hi=>Hi h (zax _) (by have:=lF (s:=s);omega)) i hi
end ck
end
