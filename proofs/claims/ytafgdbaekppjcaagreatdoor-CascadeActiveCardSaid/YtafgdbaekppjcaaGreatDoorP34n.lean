/- Parts of my machine and its laws, joined: P34n P34o P34p P34q P34r P32t. No condition. -/
import Derived.Test.YtafgdbaekppjcaaGreatDoorP34c
set_option linter.unusedSectionVars false
set_option linter.unusedVariables false
set_option linter.unusedSimpArgs false
section
namespace cK
open Go Go.Pl
theorem Tt (c:ax):(⟨c.U,c.aC,c.ah,c.bT,c.aZ⟩:ax)=c:=rfl
theorem tA (x:aj):Il x=some (x.Op==0&&(x.Index==0&&(x.aq.length:Int)==0)):=by
 unfold Il
 cases x.Op==0<;>cases x.Index==0<;>rfl
theorem PR {c:ax} (h:dY c) (L:MP) (i:Nat) (hi:i < c.ah.length) (hx:vM c.ah[i].On (fl c+c.ah.length)=some 0):
 ∃ b,Gq (i:Int) (L.map (·.1)) (L.map (·.2)) c.U c.aC c.ah c.bT c.aZ=some (.inl ((if oX (lp c i) c.ah[i].On then 9 else if (!(c.ah[i].kS.Op==0&&(c.ah[i].kS.Index==0&&(c.ah[i].kS.aq.length:Int)==0))||c.ah[i].Init||c.ah[i].fk !=0) then 3 else 0),L.map (·.1),L.map (·.2),c.U,c.aC,c.ah,c.bT,c.aZ,b,(i:Int))):=by
 obtain ⟨h1,h2,h3⟩:=C1 hx;refine ⟨oX (lp c i) c.ah[i].On,?_⟩;unfold Gq Kg;rw [aF hi,dL];dsimp only [Option.bind];rw [eta,G4 L c h i fuel _ false h1 (show _<=2 ^ 64 by omega) h3];dsimp only [Sum.elim_inl];rw [zbQ,eta,show JJ c.ah[i].kS=Il c.ah[i].kS from rfl,tA];dsimp only
 cases oX (lp c i) c.ah[i].On
 ·generalize (c.ah[i].kS.Op==0&&(c.ah[i].kS.Index==0&&(c.ah[i].kS.aq.length:Int)==0))=z;generalize c.ah[i].Init=w;generalize (c.ah[i].fk !=0)=d;simp only [dL]
  cases z<;>cases w<;>cases d<;>simp [dL]
 ·rw [cond_true,dL];rfl
theorem II {c:ax} (h:dY c) (L:MP) (i:Nat) (hi:i < c.ah.length) (e:Int) (hx:vM c.ah[i].kS (fl c+c.ah.length)=some e):
 Gp (i:Int) (L.map (·.1)) (L.map (·.2)) c.U c.aC c.ah c.bT c.aZ=some (.inl ((if e≠0 then e else if c.ah[i].fk≠0 then 3 else 0),L.map (·.1),L.map (·.2),c.U,c.aC,c.ah,c.bT,c.aZ)):=by
 unfold Gp;rw [aF hi,dL,Tt,show AI c=me c from rfl,h.me];dsimp only [Option.bind];rw [eta,G6,hx];dsimp only;by_cases he:e=0
 ·subst he;rw [show ((0:Int) !=0)=false from rfl,cond_false];by_cases hd:c.ah[i].fk=0
  ·rw [hd];rfl
  ·rw [bne_iff_ne.2 hd,cond_true];simp [hd]
 ·rw [bne_iff_ne.2 he,cond_true];simp [he]
theorem MD {c:ax} (L:MP) (i:Nat) (hi:i < c.ah.length):
 Gn (i:Int) (L.map (·.1)) (L.map (·.2)) c.U c.aC c.ah c.bT c.aZ=some (.inl ((if (decide (c.ah[i].fk < 1)||decide (c.ah[i].fk > 1000000)) then 2 else if (!(c.ah[i].kS.Op==0&&(c.ah[i].kS.Index==0&&(c.ah[i].kS.aq.length:Int)==0))||c.ah[i].Init) then 3 else 0),L.map (·.1),L.map (·.2),c.U,c.aC,c.ah,c.bT,c.aZ)):=by
 unfold Gn;rw [aF hi,dL];dsimp only [Option.bind];rw [eta,show JJ c.ah[i].kS=Il c.ah[i].kS from rfl,tA];dsimp only;generalize (c.ah[i].kS.Op==0&&(c.ah[i].kS.Index==0&&(c.ah[i].kS.aq.length:Int)==0))=z;generalize c.ah[i].Init=w;generalize decide (c.ah[i].fk < 1)=d;generalize decide (c.ah[i].fk > 1000000)=f
 cases z<;>cases w<;>cases d<;>cases f<;>simp [dL]
end cK
end
section
namespace cK
open Go Go.Pl
theorem Aj {c:ax} (h:dY c) (ht:vZ c) (i:Nat) (hi:i < c.ah.length) {L:MP} (k:Nat) (hk:(k:Int)=fl c+i) (hL:iZ c k L):
 ∃ (e:Int) (L':MP),B9 c (i:Int)=some e/\Gr (i:Int) (L.map (·.1)) (L.map (·.2)) c.U c.aC c.ah c.bT c.aZ=some (.inl (e,L'.map (·.1),L'.map (·.2),c.U,c.aC,c.ah,c.bT,c.aZ))/\(e=0->iZ c (k+1) L'):=by
 have:=h.Wg;have:=h.s;obtain ⟨e,L',h1,h2,h3⟩:=Dj h ht k (by omega) hL;rw [U8 h i hi k hk] at h2;unfold B9 Gr;rw [aF hi,h.sy,dL];dsimp only [Option.bind];rw [bh (by omega) (by omega),<-hk,h1,h2];dsimp only [Sum.elim_inl];by_cases he:e=0
 case neg=>
  rw [bne_iff_ne.2 he,cond_true,cond_true,dL];exact ⟨e,L',rfl,rfl,fun h0=>(he h0).elim⟩
 subst he;have h3:=h3 rfl;rw [show ((0:Int) !=0)=false from rfl,cond_false,cond_false];by_cases k0:c.ah[i].Kind < 0
 ·rw [bq k0];simp only [cond_true,dL];exact ⟨1,L',rfl,rfl,fun h0=>by cases h0⟩
 rw [bn k0];simp only [cond_false];by_cases k3:c.ah[i].Kind≥3
 ·rw [decide_eq_true k3];simp only [cond_true,dL];exact ⟨1,L',rfl,rfl,fun h0=>by cases h0⟩
 rw [decide_eq_false k3];simp only [cond_false,dL,Tt,eta,G6,show AI c=me c from rfl,h.me,za];obtain ⟨v,hv⟩:=yp c.ah[i].On (fl c+c.ah.length);rw [hv];dsimp only [Option.bind];by_cases EB:v=0
 case neg=>
  rw [bne_iff_ne.2 EB,cond_true,cond_true];exact ⟨v,L',rfl,rfl,fun h0=>(EB h0).elim⟩
 subst EB;rw [show ((0:Int) !=0)=false from rfl,cond_false,cond_false,tA];obtain ⟨o1,o2,o3⟩:=C1 hv;have hk:c.ah[i].Kind=0\/c.ah[i].Kind=1\/c.ah[i].Kind=2:=by omega
 rcases hk with hk | hk | hk
 ·obtain ⟨b,hg⟩:=PR h L' i hi hv;rw [if_pos hk,hg,hk,PN c h i hi o1 o2 o3];dsimp only [Sum.elim_inl];simp only [dL];refine ⟨_,L',?_,rfl,fun _=>h3⟩;show (bif oX (lp c i) c.ah[i].On then some 9 else _)=_
  cases oX (lp c i) c.ah[i].On
  ·generalize (c.ah[i].kS.Op==0&&(c.ah[i].kS.Index==0&&(c.ah[i].kS.aq.length:Int)==0))=z;generalize c.ah[i].Init=w;generalize (c.ah[i].fk !=0)=d
   cases z<;>cases w<;>cases d<;>rfl
  ·rfl
 ·obtain ⟨e,he⟩:=yp c.ah[i].kS (fl c+c.ah.length);rw [if_neg (by omega),if_pos hk,II h L' i hi e he,hk,he];dsimp only [Sum.elim_inl];simp only [dL];refine ⟨_,L',?_,rfl,fun _=>h3⟩;by_cases Jl:e=0
  ·subst Jl;show (bif c.ah[i].fk !=0 then some (3:Int) else some 0)=_;by_cases hd:c.ah[i].fk=0
   ·rw [hd];rfl
   ·rw [bne_iff_ne.2 hd];simp [hd]
  ·rw [show (e !=0)=true from bne_iff_ne.2 Jl,if_pos Jl];rfl
 ·rw [if_neg (by omega),if_neg (by omega),if_pos hk,MD L' i hi,hk];dsimp only [Sum.elim_inl];simp only [dL];refine ⟨_,L',?_,rfl,fun _=>h3⟩;generalize (c.ah[i].kS.Op==0&&(c.ah[i].kS.Index==0&&(c.ah[i].kS.aq.length:Int)==0))=z;generalize c.ah[i].Init=w;generalize decide (c.ah[i].fk < 1)=d;generalize decide (c.ah[i].fk > 1000000)=f
  cases z<;>cases w<;>cases d<;>cases f<;>rfl
end cK
end
section
namespace cK
open Go Go.Pl
def yL (n v:Int):Bool:=decide (v < 0)||decide (v≥n)
theorem Ab {α β γ:Type} (f:α->β) (g:γ->Option α):∀ l:List γ,l.findSome? (fun j=>(g j).map f)=(l.findSome? g).map f
 | []=>rfl
 | x::l=>by
  rw [zaO,zaO,Ab f g l]
  cases g x<;>rfl
theorem DH (n:Int):∀ l:List Int,l.findSome? (fun v=>if yL n v then some (6:Int) else none)=if l.any (yL n) then some 6 else none
 | []=>rfl
 | x::l=>by
  rw [zaO,DH n l,zbZ]
  cases yL n x<;>rfl
theorem QT {c:ax} (h:dY c) (l:List Int) (hl:l.length < 2 ^ 62):
 rG l c.U c.aC c.ah c.bT c.aZ=some (l.any (yL (fl c+c.ah.length))):=by
 unfold rG xd;rw [bt (s0:=(0:Int)) (fun k:Nat=>(k:Int)) (fun k=>(l[k]?).bind fun v=>if yL (fl c+c.ah.length) v then some (k:Int) else none) l.length (show l.length < 2 ^ 64 by omega) () rfl (fun k hk _=>by
  rw [bq (show ((k:Nat):Int) < (l.length:Int) by omega),cond_true,aF hk,za2 hk];dsimp only [Option.bind];unfold S9;rw [Tt,show AI c=me c from rfl,h.me,an (by omega)];unfold yL;dsimp only [Option.bind]
  cases decide (l[k] < 0)<;>cases decide (l[k]≥fl c+c.ah.length)<;>rfl) (fun _=>by rw [bn (by omega),cond_false])]
 cases hf:first l.length (fun k=>(l[k]?).bind fun v=>if yL (fl c+c.ah.length) v then some (k:Int) else none) with
 | none=>
  have:l.any (yL (fl c+c.ah.length))=false:=zbi.2 fun x hx hn=>by
   obtain ⟨i,hi,rfl⟩:=zaA hx;have:=bu.1 hf i hi;rw [za2 hi] at this;dsimp only [Option.bind] at this;rw [if_pos hn] at this;cases this
  rw [this];rfl
 | some r=>
  obtain ⟨k,hk,hr⟩:=zab hf;have hk:=zac.1 hk;rw [za2 hk] at hr;dsimp only [Option.bind] at hr;split at hr
  ·rename_i hn;injection hr with hr;subst hr
   rw [zbb.2 ⟨l[k],zaG hk,hn⟩];show some (decide ((k:Int)≥0))=_;rw [decide_eq_true (by omega)]
  ·cases hr
theorem I1 {c:ax} (h:dY c):OL c=some (if (c.bT.length:Int)≠c.U\/(c.aZ.length:Int)≠c.U then 8 else if (c.bT++c.aZ).any (yL (fl c+c.ah.length)) then 6 else 0):=by
 unfold OL;have:=h.a6;by_cases h1:(c.bT.length:Int)=c.U
 case neg=>
  rw [show ((c.bT.length:Int) !=c.U)=true from bne_iff_ne.2 h1,cond_true,if_pos (.inl h1)];rfl
 rw [show ((c.bT.length:Int) !=c.U)=false from by rw [h1];exact bne_self_eq_false _,cond_false];by_cases h2:(c.aZ.length:Int)=c.U
 case neg=>
  rw [show ((c.aZ.length:Int) !=c.U)=true from bne_iff_ne.2 h2,if_pos (.inr h2)];rfl
 rw [show ((c.aZ.length:Int) !=c.U)=false from by rw [h2];exact bne_self_eq_false _,if_neg (by rintro (h | h);exact h h1;exact h h2)];rw [za,cond_false];have inner:∀ l:List Int,l.length < 2 ^ 62->iter (fun s5:Int=>((bif (decide (s5 < (l.length:Int))) then ((idx l s5).bind fun v8=>(bif (decide (v8 < 0)) then some true else (idx l s5).bind fun v9=>(me c).bind fun v10=>some (decide (v9≥v10))):Option (Bool)).bind fun w7=>(bif w7 then some (.inr (.inr (.inr (.inr 6)))) else some (.inl (aI .i64 s5 1))) else some (.inr (.inl ()))):Option ((Int)⊕((Unit)⊕((Int)⊕((Unit)⊕Int)))))) 0=some (if l.any (yL (fl c+c.ah.length)) then .inr (.inr (.inr 6)) else .inl ()):=fun l hl=>by
  rw [dO (s0:=(0:Int)) l (fun v=>(if yL (fl c+c.ah.length) v then some (6:Int) else none).map (fun r=>(Sum.inr (Sum.inr r):Int⊕(Unit⊕Int)))) (show l.length < 2 ^ 64 by omega) () rfl (fun k hk=>by
   rw [bq (show ((k:Nat):Int) < (l.length:Int) by omega),cond_true,aF hk,h.me,an (by omega)];unfold yL;dsimp only [Option.bind]
   cases decide (l[k] < 0)<;>cases decide (l[k]≥fl c+c.ah.length)<;>rfl) (by rw [bn (by omega),cond_false])]
  have:l.findSome? (fun v=>(if yL (fl c+c.ah.length) v then some (6:Int) else none).map (fun r=>(Sum.inr (Sum.inr r):Int⊕(Unit⊕Int))))=(if l.any (yL (fl c+c.ah.length)) then some 6 else none).map (fun r=>(Sum.inr (Sum.inr r):Int⊕(Unit⊕Int))):=by
   rw [<-DH];exact Ab _ _ l
  rw [this]
  cases l.any (yL (fl c+c.ah.length))<;>rfl
 rw [List.any_append];rw [bt (s0:=(0:Int)) (fun k:Nat=>(k:Int)) (fun k=>if (if k=0 then c.bT else c.aZ).any (yL (fl c+c.ah.length)) then some (6:Int) else none) 2 (show 2 < 2 ^ 64 by omega) () rfl (fun k hk _=>by
  have hk2:k=0\/k=1:=by omega
  rcases hk2 with rfl | rfl
  ·rw [show decide (((0:Nat):Int) < 2)=true from rfl,cond_true,if_pos (show ((0:Nat):Int)=0 from rfl)];rw [za,inner c.bT (by omega),if_pos (show (0:Nat)=0 from rfl)]
   cases c.bT.any (yL (fl c+c.ah.length))<;>rfl
  ·rw [show decide (((1:Nat):Int) < 2)=true from rfl,cond_true,if_neg (show ¬ ((1:Nat):Int)=0 by omega),if_pos (show ((1:Nat):Int)=1 from rfl)];rw [za,inner c.aZ (by omega),if_neg (show ¬ (1:Nat)=0 by omega)]
   cases c.aZ.any (yL (fl c+c.ah.length))<;>rfl) (fun _=>rfl)]
 unfold first
 rw [show List.range 2=[0,1] from rfl,zaO,zaO,List.findSome?_nil];simp only [if_pos (show (0:Nat)=0 from rfl),if_neg (show ¬ (1:Nat)=0 by omega),if_true]
 cases c.bT.any (yL (fl c+c.ah.length))<;>cases c.aZ.any (yL (fl c+c.ah.length))<;>rfl
end cK
end
section
namespace cK
open Go Go.Pl
abbrev St7:=(List (List UInt8))×(List Int)×Int×(List (List UInt8))×(List aK)×(List Int)×(List Int)
def Jr (c:ax) (L:MP):St7:=(L.map (·.1),L.map (·.2),c.U,c.aC,c.ah,c.bT,c.aZ)
theorem NH (c:ax) (k:Nat):iZ c k ((List.range k).map fun j=>(nm c j,0)):=fun y=>by
 rw [zb,zbv];exact ⟨fun ⟨j,h,e⟩=>⟨j,zac.1 h,e⟩,fun ⟨j,h,e⟩=>⟨j,zac.2 h,e⟩⟩
theorem L8 (c:ax) (ht:vZ c):∃ e,m64 c=some e/\VT c=some e:=by
 unfold m64 VT;by_cases h1:c.U < 1
 ·rw [bq h1];exact ⟨2,rfl,rfl⟩
 rw [bn h1,cond_false,za];by_cases h2:c.U > 6
 ·rw [decide_eq_true h2];exact ⟨2,rfl,rfl⟩
 rw [decide_eq_false h2,cond_false];by_cases h3:(c.aC.length:Int) > 16
 ·rw [decide_eq_true h3];exact ⟨5,rfl,rfl⟩
 rw [decide_eq_false h3,cond_false,za];by_cases h4:(c.ah.length:Int) > 64
 ·rw [decide_eq_true h4];exact ⟨5,rfl,rfl⟩
 rw [decide_eq_false h4,cond_false];have h:dY c:=⟨by omega,by omega,by omega,by omega⟩;have hf:=h.Wg;have:=h.a1;have:=h.a6;have:=h.i;have:=h.s;have hfl:fl c=2*c.U+c.aC.length:=rfl;obtain ⟨A,hA⟩:∃ A:Nat,c.U=(A:Int):=⟨c.U.toNat,by omega⟩;rw [show cE .i64 2 c.U=((2*A:Nat):Int) by rw [jf (by omega) (by omega)];omega];refine rP (τ:=St7) (2*A) (show 2*A < 2 ^ 64 by omega) (fun k t=>∃ L,iZ c k L/\t=Jr c L) (fun r=>∃ L,iZ c (2*A) L/\r=Jr c L) ⟨[],iZ.zero c,rfl⟩ ?_ ?_
 ·rintro k t hk ⟨L,hL,rfl⟩;unfold Jr;dsimp only;by_cases hkk:k < 2*A
  ·rw [bq (show ((k:Nat):Int) < ((2*A:Nat):Int) by omega),cond_true,L6 c (by omega) (by omega) _ (by omega),(A8 h ht k (by omega)).1];simp only [dL,za,an (show k < 9223372036854775807 by omega)];exact .inl ⟨_,hkk,rfl,_,hL.more fun y=>Bq _ _ _ _,rfl⟩
  ·have:k=2*A:=by omega
   subst this;rw [bn (by omega),cond_false];simp only [dL];exact .inr ⟨_,rfl,L,hL,rfl⟩
 rintro r ⟨L,hL,rfl⟩;unfold Jr;simp only [dL];let g1:Nat->Option Int:=fun i=>(yP c ((2*A+i:Nat):Int)).bind fun e=>if e≠0 then some e else none
 have Jn:iter (fun s3:Int=>((bif (decide (s3 < (c.aC.length:Int))) then (yP c (aI .i64 ((2*A:Nat):Int) s3)).bind fun v5=>(bif (v5 !=0) then some (.inr (.inr v5)) else some (.inl (aI .i64 s3 1))) else some (.inr (.inl ()))):Option ((Int)⊕((Unit)⊕Int)))) 0=some (match first c.aC.length g1 with | none=> .inl () | some r=> .inr r):=by
  rw [bt (s0:=(0:Int)) (fun i:Nat=>(i:Int)) g1 c.aC.length (show c.aC.length < 2 ^ 64 by omega) () rfl (fun i hi _=>by
   rw [bq (show ((i:Nat):Int) < (c.aC.length:Int) by omega),cond_true,bh (by omega) (by omega),show ((2*A:Nat):Int)+(i:Int)=((2*A+i:Nat):Int) by omega];rw [show g1 i=(yP c ((2*A+i:Nat):Int)).bind fun e=>if e≠0 then some e else none from rfl,Di h ht (2*A+i) (by omega)];generalize Wa _ _=e;rw [za,za,an (by omega)];by_cases he:e=0
   ·subst he;rfl
   ·rw [show (e !=0)=true from bne_iff_ne.2 he,if_pos he];rfl) (fun _=>by rw [bn (by omega),cond_false])]
  cases first c.aC.length g1<;>rfl
 rw [Jn];let g2:Nat->Option Int:=fun i=>(B9 c (i:Int)).bind fun e=>if e≠0 then some e else none
 have hd2:iter (fun s6:Int=>((bif (decide (s6 < (c.ah.length:Int))) then (B9 c s6).bind fun v8=>(bif (v8 !=0) then some (.inr (.inr v8)) else some (.inl (aI .i64 s6 1))) else some (.inr (.inl ()))):Option ((Int)⊕((Unit)⊕Int)))) 0=some (match first c.ah.length g2 with | none=> .inl () | some r=> .inr r):=by
  rw [bt (s0:=(0:Int)) (fun i:Nat=>(i:Int)) g2 c.ah.length (show c.ah.length < 2 ^ 64 by omega) () rfl (fun i hi _=>by
   rw [bq (show ((i:Nat):Int) < (c.ah.length:Int) by omega),cond_true];rw [show g2 i=(B9 c (i:Int)).bind fun e=>if e≠0 then some e else none from rfl];obtain ⟨e,_,he,_⟩:=Aj h ht i hi (2*A+c.aC.length+i) (by omega) (NH c _);rw [he,za,za,an (by omega)];by_cases he:e=0
   ·subst he;rfl
   ·rw [show (e !=0)=true from bne_iff_ne.2 he,if_pos he];rfl) (fun _=>by rw [bn (by omega),cond_false])]
  cases first c.ah.length g2<;>rfl
 rw [hd2,I1 h];refine rP (τ:=St7) c.aC.length (show c.aC.length < 2 ^ 64 by omega) (fun i t=>(∃ L,iZ c (2*A+i) L/\t=Jr c L)/\∀ j,j < i->g1 j=none)
  (fun r=>match r with
   | .inl t=>(∃ L,iZ c (2*A+c.aC.length) L/\t=Jr c L)/\first c.aC.length g1=none
   | .inr e=>first c.aC.length g1=some e) ⟨⟨L,hL,rfl⟩,fun j hj=>by omega⟩ ?_ ?_
 ·rintro i t hi ⟨⟨L,hL,rfl⟩,hj⟩;unfold Jr;dsimp only;by_cases zf:i < c.aC.length
  ·obtain ⟨e,L',e1,e2,e3⟩:=Dj h ht (2*A+i) (by omega) hL;rw [Zo h i zf (2*A+i) (by omega)] at e2;rw [bq (show ((i:Nat):Int) < (c.aC.length:Int) by omega),cond_true,aF zf];simp only [dL,za,e2,Sum.elim_inl];have hg:g1 i=if e≠0 then some e else none:=by
    show (yP c ((2*A+i:Nat):Int)).bind _=_;rw [e1];rfl
   by_cases he:e=0
   ·subst he;refine .inl ⟨_,zf,?_,⟨L',e3 rfl,rfl⟩,fun j hj'=>?_⟩
    ·rw [an (by omega)];rfl
    ·by_cases e:j=i
     ·subst e;rw [hg];rfl
     ·exact hj j (by omega)
   ·rw [show (e !=0)=true from bne_iff_ne.2 he,cond_true];exact .inr ⟨_,rfl,mE zf hj (by rw [hg,if_pos he])⟩
  ·have:i=c.aC.length:=by omega
   subst this;rw [bn (by omega),cond_false];simp only [dL];exact .inr ⟨_,rfl,⟨L,hL,rfl⟩,iy hj⟩
 rintro (r | r) hr
 case inr=>
  have hr:first c.aC.length g1=some r:=hr
  rw [hr];exact ⟨r,rfl,rfl⟩
 obtain ⟨⟨L,hL,rfl⟩,hr⟩:=hr;rw [hr];unfold Jr;simp only [dL,Sum.elim_inl,za];refine rP (τ:=St7) c.ah.length (show c.ah.length < 2 ^ 64 by omega) (fun i t=>(∃ L,iZ c (2*A+c.aC.length+i) L/\t=Jr c L)/\∀ j,j < i->g2 j=none)
  (fun r=>match r with
   | .inl t=>(∃ L,t=Jr c L)/\first c.ah.length g2=none
   | .inr e=>first c.ah.length g2=some e) ⟨⟨L,hL,rfl⟩,fun j hj=>by omega⟩ ?_ ?_
 ·rintro i t hi ⟨⟨L,hL,rfl⟩,hj⟩;unfold Jr;dsimp only;by_cases zf:i < c.ah.length
  ·obtain ⟨e,L',e1,e2,e3⟩:=Aj h ht i zf (2*A+c.aC.length+i) (by omega) hL;rw [bq (show ((i:Nat):Int) < (c.ah.length:Int) by omega),cond_true];simp only [dL,za,e2,Sum.elim_inl];have hg:g2 i=if e≠0 then some e else none:=by
    show (B9 c (i:Int)).bind _=_;rw [e1];rfl
   by_cases he:e=0
   ·subst he;refine .inl ⟨_,zf,?_,⟨L',e3 rfl,rfl⟩,fun j hj'=>?_⟩
    ·rw [an (by omega)];rfl
    ·by_cases e:j=i
     ·subst e;rw [hg];rfl
     ·exact hj j (by omega)
   ·rw [show (e !=0)=true from bne_iff_ne.2 he,cond_true];exact .inr ⟨_,rfl,mE zf hj (by rw [hg,if_pos he])⟩
  ·have:i=c.ah.length:=by omega
   subst this;rw [bn (by omega),cond_false];simp only [dL];exact .inr ⟨_,rfl,⟨L,rfl⟩,iy hj⟩
 rintro (r | r) hr
 case inr=>
  have hr:first c.ah.length g2=some r:=hr
  rw [hr];exact ⟨r,rfl,rfl⟩
 obtain ⟨⟨L,rfl⟩,hr⟩:=hr;rw [hr];unfold Jr;simp only [dL,Sum.elim_inl,za];by_cases p1:(c.bT.length:Int)=c.U
 case neg=>
  rw [show ((c.bT.length:Int) !=c.U)=true from bne_iff_ne.2 p1,cond_true,if_pos (.inl p1)];exact ⟨8,rfl,rfl⟩
 rw [show ((c.bT.length:Int) !=c.U)=false from by rw [p1];exact bne_self_eq_false _,cond_false];by_cases p2:(c.aZ.length:Int)=c.U
 case neg=>
  rw [show ((c.aZ.length:Int) !=c.U)=true from bne_iff_ne.2 p2,if_pos (.inr p2)];exact ⟨8,rfl,rfl⟩
 rw [show ((c.aZ.length:Int) !=c.U)=false from by rw [p2];exact bne_self_eq_false _,if_neg (by rintro (h | h);exact h p1;exact h p2)];simp only [za,cond_false,dL];have p1':(c.bT.length:Int)=(A:Int):=by omega
 have p2':(c.aZ.length:Int)=(A:Int):=by omega
 rw [aN (s0:=((0:Int),(0:Int),L.map (·.1),L.map (·.2),c.U,c.aC,c.ah,c.bT,c.aZ,[c.bT,c.aZ])) (fun k:Nat=>(((k*A:Nat):Int),(k:Int),L.map (·.1),L.map (·.2),c.U,c.aC,c.ah,c.bT,c.aZ,[c.bT,c.aZ])) 2 (show 2 < 2 ^ 64 by omega)
  (((2*A:Nat):Int),L.map (·.1),L.map (·.2),c.U,c.aC,c.ah,c.bT,c.aZ,[c.bT,c.aZ]) (by simp) (fun k hk=>by
    dsimp only;have hk2:k=0\/k=1:=by omega
    rcases hk2 with rfl | rfl
    ·rw [show decide (((0:Nat):Int) < 2)=true from rfl,cond_true,show idx [c.bT,c.aZ] ((0:Nat):Int)=some c.bT from rfl];simp only [za,dL];rw [p1',bh (by omega) (by omega),bn (by omega),cond_false];simp only [Nat.zero_mul,zaD,zaT];rw [show ((0:Nat):Int)+(A:Int)=(A:Int) by omega];rfl
    ·rw [show decide (((1:Nat):Int) < 2)=true from rfl,cond_true,show idx [c.bT,c.aZ] ((1:Nat):Int)=some c.aZ from rfl];simp only [za,dL];rw [p2',bh (by omega) (by omega),bn (by omega),cond_false];rw [show ((1*A:Nat):Int)+(A:Int)=(((1+1)*A:Nat):Int) by omega];rfl) (by
    dsimp only;rw [show decide (((2:Nat):Int) < 2)=false from rfl,cond_false,dL])]
 simp only [za,dL];rw [bn (show ¬ ((2*A:Nat):Int) < 0 by omega),cond_false,show cB .i64 0 0=0 from rfl,fW (by omega) (by omega),decide_eq_true (show ((2*A:Nat):Int) - 0 > 0 by omega),cond_true];unfold Oc;rw [if_pos (by omega)];simp only [za,if_true];rw [aN (s0:=((0:Int),L.map (·.1),L.map (·.2),c.U,c.aC,c.ah,c.bT,c.aZ,[c.bT,c.aZ],([]:List Int))) (fun k:Nat=>((k:Int),L.map (·.1),L.map (·.2),c.U,c.aC,c.ah,c.bT,c.aZ,[c.bT,c.aZ],(if k=0 then [] else if k=1 then c.bT else c.bT++c.aZ))) 2 (show 2 < 2 ^ 64 by omega)
  (L.map (·.1),L.map (·.2),c.U,c.aC,c.ah,c.bT,c.aZ,[c.bT,c.aZ],c.bT++c.aZ) (by simp) (fun k hk=>by
   dsimp only;have hk2:k=0\/k=1:=by omega
   rcases hk2 with rfl | rfl
   ·rw [show decide (((0:Nat):Int) < (([c.bT,c.aZ]:List (List Int)).length:Int))=true from rfl,cond_true,show idx [c.bT,c.aZ] ((0:Nat):Int)=some c.bT from rfl];simp only [za,dL];rw [if_pos trivial,aO (by simp;omega) (by simp;omega)];rfl
   ·rw [show decide (((1:Nat):Int) < (([c.bT,c.aZ]:List (List Int)).length:Int))=true from rfl,cond_true,show idx [c.bT,c.aZ] ((1:Nat):Int)=some c.aZ from rfl];simp only [za,dL];simp only [if_neg (show ¬ (1:Nat)=0 by omega),if_true];rw [aO (by omega) (by omega)];rfl) (by
   dsimp only;rw [show decide (((2:Nat):Int) < (([c.bT,c.aZ]:List (List Int)).length:Int))=false from rfl,cond_false,dL];rfl)]
 simp only [za];rw [QT h _ (by rw [za9];omega)]
 cases (c.bT++c.aZ).any (yL (fl c+c.ah.length))
 ·exact ⟨0,rfl,rfl⟩
 ·exact ⟨6,rfl,rfl⟩
end cK
end
section
namespace cK
open Go Go.Pl
theorem DZ {c:ax} (h:VT c=some 0):dY c:=by
 unfold VT at h;by_cases h1:c.U < 1
 ·rw [bq h1] at h;exact absurd h (by simp)
 rw [bn h1,cond_false,za] at h;by_cases h2:c.U > 6
 ·rw [decide_eq_true h2] at h;exact absurd h (by simp)
 rw [decide_eq_false h2,cond_false] at h;by_cases h3:(c.aC.length:Int) > 16
 ·rw [decide_eq_true h3] at h;exact absurd h (by simp)
 rw [decide_eq_false h3,cond_false,za] at h;by_cases h4:(c.ah.length:Int) > 64
 ·rw [decide_eq_true h4] at h;exact absurd h (by simp)
 exact ⟨by omega,by omega,by omega,by omega⟩
theorem CO (l:List Int) (n:Int) (hl:l.length < 2 ^ 62):nO l n=some (l.any fun v=>decide (v < 0)||decide (v≥n)):=by
 unfold nO wV;rw [bt (s0:=(0:Int)) (fun k:Nat=>(k:Int)) (fun k=>(l[k]?).bind fun v=>if decide (v < 0)||decide (v≥n) then some (k:Int) else none) l.length (show l.length < 2 ^ 64 by omega) () rfl (fun k hk _=>by
  rw [bq (show ((k:Nat):Int) < (l.length:Int) by omega),cond_true,aF hk,za2 hk,an (by omega)];unfold S1;dsimp only [Option.bind]
  cases decide (l[k] < 0)<;>cases decide (l[k]≥n)<;>rfl) (fun _=>by rw [bn (by omega),cond_false])]
 cases hf:first l.length (fun k=>(l[k]?).bind fun v=>if decide (v < 0)||decide (v≥n) then some (k:Int) else none) with
 | none=>
  have:(l.any fun v=>decide (v < 0)||decide (v≥n))=false:=zbi.2 fun x hx hn=>by
   obtain ⟨i,hi,rfl⟩:=zaA hx;have:=bu.1 hf i hi;rw [za2 hi] at this;dsimp only [Option.bind] at this;rw [if_pos hn] at this;cases this
  rw [this];rfl
 | some r=>
  obtain ⟨k,hk,hr⟩:=zab hf;have hk:=zac.1 hk;rw [za2 hk] at hr;dsimp only [Option.bind] at hr;split at hr
  ·rename_i hn;injection hr with hr;subst hr
   rw [zbb.2 ⟨l[k],zaG hk,hn⟩];show some (decide ((k:Int)≥0))=_;rw [decide_eq_true (by omega)]
  ·cases hr
theorem CP {ρ:Type} (p:Int->Bool) (r:ρ):∀ l:List Int,l.findSome? (fun v=>if p v then some r else none)=if l.any p then some r else none
 | []=>rfl
 | x::l=>by
  rw [zaO,CP p r l,zbZ]
  cases p x<;>rfl
theorem zG (l:List Int) (n:Int) (hl:l.length < 2 ^ 62):iter (fun s2:Int=>((bif (decide (s2 < (l.length:Int))) then ((idx l s2).bind fun v5=>(bif (decide (v5 < 0)) then some true else (idx l s2).bind fun v6=>some (decide (v6≥n))):Option (Bool)).bind fun w4=>(bif w4 then some (.inr (.inr 1)) else some (.inl (aI .i64 s2 1))) else some (.inr (.inl ()))):Option ((Int)⊕((Unit)⊕Int)))) 0=some (if (l.any fun v=>decide (v < 0)||decide (v≥n)) then .inr 1 else .inl ()):=by
 rw [dO (s0:=(0:Int)) l (fun v=>if decide (v < 0)||decide (v≥n) then some (1:Int) else none) (show l.length < 2 ^ 64 by omega) () rfl (fun k hk=>by
  rw [bq (show ((k:Nat):Int) < (l.length:Int) by omega),cond_true,aF hk,an (by omega)];dsimp only [Option.bind]
  cases decide (l[k] < 0)<;>cases decide (l[k]≥n)<;>rfl) (by rw [bn (by omega),cond_false]),CP]
 cases (l.any fun v=>decide (v < 0)||decide (v≥n))<;>rfl
structure Fit (c:ax) (x:cP):Prop where
 e:(x.Ends.length:Int)=c.U
 v:(x.kN.length:Int)=c.U
 i:x.aC.length=c.aC.length
 s:x.cL.length=c.ah.length
 t:x.bz.length=c.ah.length
theorem Pn {c:ax} (h:dY c) (x:cP):∃ e,Z0 c x=some e/\Oj c x=some e/\(e=0->Fit c x):=by
 unfold Z0 Oj;have:=h.a1;have:=h.a6;have:=h.i;have:=h.s;by_cases h1:(x.Ends.length:Int)=c.U
 case neg=>
  rw [show ((x.Ends.length:Int) !=c.U)=true from bne_iff_ne.2 h1];exact ⟨8,rfl,rfl,fun h=>by cases h⟩
 rw [show ((x.Ends.length:Int) !=c.U)=false from by rw [h1];exact bne_self_eq_false _,cond_false];by_cases h2:(x.kN.length:Int)=c.U
 case neg=>
  rw [show ((x.kN.length:Int) !=c.U)=true from bne_iff_ne.2 h2];exact ⟨8,rfl,rfl,fun h=>by cases h⟩
 rw [show ((x.kN.length:Int) !=c.U)=false from by rw [h2];exact bne_self_eq_false _,cond_false];by_cases h3:(x.aC.length:Int)=(c.aC.length:Int)
 case neg=>
  rw [show ((x.aC.length:Int) !=(c.aC.length:Int))=true from bne_iff_ne.2 h3];exact ⟨8,rfl,rfl,fun h=>by cases h⟩
 rw [show ((x.aC.length:Int) !=(c.aC.length:Int))=false from by rw [h3];exact bne_self_eq_false _,cond_false];by_cases h4:(x.cL.length:Int)=(c.ah.length:Int)
 case neg=>
  rw [show ((x.cL.length:Int) !=(c.ah.length:Int))=true from bne_iff_ne.2 h4];exact ⟨8,rfl,rfl,fun h=>by cases h⟩
 rw [show ((x.cL.length:Int) !=(c.ah.length:Int))=false from by rw [h4];exact bne_self_eq_false _,cond_false];by_cases h5:(x.bz.length:Int)=(c.ah.length:Int)
 case neg=>
  rw [show ((x.bz.length:Int) !=(c.ah.length:Int))=true from bne_iff_ne.2 h5];exact ⟨8,rfl,rfl,fun h=>by cases h⟩
 rw [show ((x.bz.length:Int) !=(c.ah.length:Int))=false from by rw [h5];exact bne_self_eq_false _,za,za,cond_false,cond_false];rw [CO _ _ (by omega),CO _ _ (by omega),zG _ _ (by omega),zG _ _ (by omega)];have F:Fit c x:=⟨h1,h2,by omega,by omega,by omega⟩
 cases x.Ends.any fun v=>decide (v < 0)||decide (v≥4)
 case true=>exact ⟨1,rfl,rfl,fun h=>by cases h⟩
 cases x.bz.any fun v=>decide (v < 0)||decide (v≥3)
 case true=>exact ⟨1,rfl,rfl,fun h=>by cases h⟩
 rw [za,cond_false,za,za,cond_false,if_neg (by simp)];rw [za,Sum.elim_inl,za,Sum.elim_inl];let g:Nat->Option Int:=fun j=>(c.ah[j]?).bind fun s=>(x.bz[j]?).bind fun t=>(x.cL[j]?).bind fun v=>if (bif s.Kind==2 then ((v==(t==2)) !=true) else t !=0) then some 14 else none
 have hg:∀ (j:Nat) (h1:j < c.ah.length) (h2:j < x.bz.length) (h3:j < x.cL.length),g j=if (bif c.ah[j].Kind==2 then ((x.cL[j]==(x.bz[j]==2)) !=true) else x.bz[j] !=0) then some 14 else none:=fun j h1 h2 h3=>by
  show (c.ah[j]?).bind _=_;rw [za2 h1];show (x.bz[j]?).bind _=_;rw [za2 h2];show (x.cL[j]?).bind _=_;rw [za2 h3];rfl
 rw [bt (s0:=(0:Int)) (fun k:Nat=>(k:Int)) g x.bz.length (show x.bz.length < 2 ^ 64 by omega) () rfl (fun k hk _=>by
  rw [bq (show ((k:Nat):Int) < (x.bz.length:Int) by omega),cond_true,aF hk,aF (show k < c.ah.length by omega),aF (show k < x.cL.length by omega),an (by omega),hg k (by omega) hk (by omega)];dsimp only [Option.bind]
  cases c.ah[k].Kind==2
  ·cases x.bz[k] !=0<;>rfl
  ·cases (x.cL[k]==(x.bz[k]==2)) !=true<;>rfl) (fun _=>by rw [bn (by omega),cond_false])]
 rw [bt (s0:=(0:Int)) (fun k:Nat=>(k:Int)) g x.bz.length (show x.bz.length < 2 ^ 64 by omega) () rfl (fun k hk _=>by
  rw [bq (show ((k:Nat):Int) < (x.bz.length:Int) by omega),cond_true,aF hk,aF (show k < c.ah.length by omega),aF (show k < x.cL.length by omega),an (by omega),hg k (by omega) hk (by omega)];dsimp only [Option.bind]
  cases c.ah[k].Kind==2
  ·cases x.bz[k] !=0<;>rfl
  ·cases (x.cL[k]==(x.bz[k]==2)) !=true<;>rfl) (fun _=>by rw [bn (by omega),cond_false])]
 cases first x.bz.length g with
 | none=>exact ⟨0,rfl,rfl,fun _=>F⟩
 | some r=>exact ⟨r,rfl,rfl,fun _=>F⟩
theorem L7 (c:ax) (ht:vZ c) (x:cP):∃ e,VU c x=some e/\Z1 c x=some e/\(e=0->dY c/\Fit c x):=by
 obtain ⟨e,h1,h2⟩:=L8 c ht;unfold VU Z1;rw [h1,h2,za,za];by_cases he:e=0
 ·subst he;have h:=DZ h2;obtain ⟨v,h3,h4,h5⟩:=Pn h x;rw [h3,h4];exact ⟨v,rfl,rfl,fun h0=>⟨h,h5 h0⟩⟩
 ·rw [show (e !=0)=true from bne_iff_ne.2 he];exact ⟨e,rfl,rfl,fun h0=>(he h0).elim⟩
def vals (x:cP):List Bool:=(x.Ends.flatMap fun v=>[v==0,v==2])++x.aC++x.cL
theorem nP (l:List Int):(l.flatMap fun v=>[v==0,v==2]).length=2*l.length:=by
 induction l with
 | nil=>rfl
 | cons a l ih=>rw [zbR,za9,ih,zaR];simp;omega
theorem zH {α β:Type} (f:α->List β) (l:List α) (k:Nat) (h:k < l.length):(l.take (k+1)).flatMap f=(l.take k).flatMap f++f l[k]:=by
 rw [zaV,za2 h,List.flatMap_append];simp
theorem Uj {c:ax} (h:dY c) {x:cP} (F:Fit c x):Z2 c x=some (vals x):=by
 have:=h.a1;have:=h.a6;have:=h.i;have:=h.s;have:=F.e;have:=F.i;have:=F.s;unfold Z2;rw [aN (s0:=((0:Int),([]:List Bool))) (fun k:Nat=>((k:Int),(x.Ends.take k).flatMap fun v=>[v==0,v==2])) x.Ends.length (show x.Ends.length < 2 ^ 64 by omega) (x.Ends.flatMap fun v=>[v==0,v==2]) (by simp) (fun k hk=>by
  dsimp only;have e:=nP (x.Ends.take k);rw [zbu] at e;rw [bq (by omega),cond_true,aF hk];dsimp only [Option.bind];rw [aO (by rw [e];simp;omega) (by rw [e];simp;omega),an (by omega),zH _ _ _ hk]) (by
  dsimp only;rw [bn (by omega),cond_false,zbC])]
 have e:=nP x.Ends;rw [za,aO (by omega) (by omega),za,aO (by rw [za9];omega) (by rw [za9];omega)];rfl
theorem L9 {c:ax} (h:dY c) {x:cP} (F:Fit c x) (j:Nat) (hj:j < c.ah.length):idx (vals x) (fl c+(j:Int))=idx x.cL (j:Int):=by
 have:=h.a1;have:=h.a6;have:=h.i;have:=h.s;have:=F.e;have:=F.i;have:=F.s;have e:=nP x.Ends;have hn:fl c+(j:Int)=((2*x.Ends.length+x.aC.length+j:Nat):Int):=by unfold fl;omega
 rw [hn,Bh,Bh];unfold vals;rw [zav (by rw [za9];omega),za9];congr 1;omega
end cK
end
section
namespace cK
open Go Go.Pl
theorem P2 {s:aa}:(B3 s).ah.length=bk s+tn s+s.Steps.length+2*s.U.toNat:=by
 unfold B3;rw [za9,vn,lF]
theorem MH {s:aa} (he:err s=0):uZ s=0/\bk s+tn s+s.Steps.length+2*s.U.toNat<=64:=by
 unfold err at he;split at he
 ·rename_i h;exact absurd he h
 ·split at he
  ·omega
  ·omega
theorem P3 {s:aa} (h:uZ s≠0):Sw s=some (none,uZ s):=by
 unfold Sw;rw [E4];refine (aW rfl).trans ?_;exact ay (by simpa using h)
theorem P4 (s:aa):Sw s=some (if err s≠0 then (none,err s) else (some ⟨s,eV s,gl s,dW s (tc s) s.Steps.length,dZ s s.Steps.length,B3 s⟩,0)):=by
 by_cases hc:uZ s=0
 ·rw [UK hc];have hn:¬ uZ s≠0:=fun h=>h hc
  unfold err;simp only [if_neg hn];by_cases hb:64 < bk s+tn s+s.Steps.length+2*s.U.toNat
  ·simp only [if_pos hb,if_pos (show (5:Int)≠0 by decide)]
  ·simp only [if_neg hb,if_neg (show ¬ (0:Int)≠0 by decide)]
 ·rw [P3 hc];unfold err;simp only [if_pos hc]
theorem MI (s:aa):∃ b,m10 s=some b/\(b=true->Small s):=by
 unfold m10;by_cases hs:s.Steps.length<=128
 ·rw [au (by simp only [decide_eq_false_iff_not];omega)];rw [dO s.Steps (fun x=>bif decide ((x.af.length:Int) > 40) then some false else none) ?hn () ?h0 ?h ?he]
  case hn=>unfold fuel;omega
  case h0=>rfl
  case he=>
   try dsimp only
   rw [au (bn (by omega))]
  case h=>
   intro k hk;try dsimp only
   rw [ay (bq (by omega)),aF hk];simp only [za];rw [an (by omega)]
   cases decide ((s.Steps[k].af.length:Int) > 40)<;>rfl
  cases hf:s.Steps.findSome? (fun x=>bif decide ((x.af.length:Int) > 40) then some false else none) with
  | none=>
   refine ⟨true,rfl,fun _=>⟨by omega,fun x hx=>?_⟩⟩;rw [zbe] at hf;have:=hf x hx
   cases hd:decide ((x.af.length:Int) > 40) with
   | true=>rw [hd] at this;cases this
   | false=>rw [decide_eq_false_iff_not] at hd;omega
  | some r=>
   refine ⟨r,rfl,fun hr=>?_⟩;obtain ⟨x,hx,Ju⟩:=zab hf
   cases hd:decide ((x.af.length:Int) > 40) with
   | true=>rw [hd] at Ju;injection Ju with Ju;rw [hr] at Ju;cases Ju
   | false=>rw [hd] at Ju;cases Ju
 ·exact ⟨false,by rw [ay (by simp only [decide_eq_true_eq];omega)],nofun⟩
theorem MJ (s:aa):∃ b,m15 s=some b/\(b=true->Small s):=by
 obtain ⟨b,h1,h2⟩:=MI s;unfold m15;rw [h1,za]
 cases b with
 | false=>exact ⟨false,rfl,nofun⟩
 | true=>
  rw [cond_true,Lh s (h2 rfl)]
  cases decide ((s.Steps.length:Int)<=10)
  ·exact ⟨_,rfl,fun _=>h2 rfl⟩
  ·cases decide (s.U<=4)<;>exact ⟨_,rfl,fun _=>h2 rfl⟩
theorem MK (x:cP):∃ b,m16 x=some b:=by
 unfold m16
 cases decide ((x.Ends.length:Int)<=40)<;>cases decide ((x.kN.length:Int)<=40)<;>cases decide ((x.aC.length:Int)<=200)<;>cases decide ((x.cL.length:Int)<=200)<;>exact ⟨_,rfl⟩
theorem ML:((List.range 100).all fun k=>decide ((nameOf [103] k).length<=9)&&decide ((nameOf [119] k).length<=9)&&decide ((nameOf [115] k).length<=9))=true:=by kernel_rfl
theorem Fc {k:Nat} (hk:k < 100):(nameOf [103] k).length<=9/\(nameOf [119] k).length<=9/\(nameOf [115] k).length<=9:=by
 have h:=zai.1 ML k (zac.2 hk);simpa [and_assoc] using h
theorem IJ {s:aa} (h:cU s):vZ (B3 s):=by
 have hn:=h.n64;have hg:=(cz h).2.1;constructor
 ·intro k hk;show ([[115,116,97,114,116]]:List (List UInt8))[k].length < _;have:k=0:=by have:k < 1:=hk;omega
  subst this;show (5:Nat) < 2 ^ 63;decide
 ·suffices ∀ x∈(B3 s).ah,x.Name.length < 2 ^ 63 from fun k hk=>this _ (zaG hk)
  intro x hx;rcases zbM.1 (show x∈qu s++g8 s (dZ s s.Steps.length) s.U.toNat from hx) with hx | hx
  ·rcases zbM.1 (show x∈kW s++dN s s.Steps.length from hx) with hx | hx
   ·rcases zbM.1 (show x∈uI s++jy s (bp s s.Steps.length) s.Steps.length from hx) with hx | hx
    ·unfold uI at hx;split at hx
     ·unfold two at hx;simp only [zam,zbD,or_false] at hx;rcases hx with rfl | rfl<;>(show (2:Nat) < 2 ^ 63;decide)
     ·obtain ⟨k,hk,rfl⟩:=zbv.1 (show x∈(List.range (bk s)).map (Gv s) from hx);have:=(Fc (k:=k) (by have:=zac.1 hk;omega)).1;show (nameOf [103] k).length < _;omega
    ·obtain ⟨k,hk,hx⟩:=List.mem_flatMap.1 (show x∈(List.range s.Steps.length).flatMap (nE s (bp s s.Steps.length)) from hx);unfold nE at hx;split at hx
     ·split at hx
      ·cases hx
      ·simp only [zam,zbD,or_false] at hx;subst hx;have:=(Fc (k:=k) (by have:=zac.1 hk;omega)).2.1;show (nameOf [119] k).length < _;omega
     ·cases hx
   ·obtain ⟨k,hk,rfl⟩:=zbv.1 (show x∈(List.range s.Steps.length).map (zm s) from hx);have:=(Fc (k:=k) (by have:=zac.1 hk;omega)).2.2;show (nameOf [115] k).length < _;omega
  ·obtain ⟨a,ha,hx⟩:=List.mem_flatMap.1 (show x∈(List.range s.U.toNat).flatMap (fun a=>[di s (dZ s s.Steps.length) a true,di s (dZ s s.Steps.length) a false]) from hx);simp only [zam,zbD,or_false] at hx;rcases hx with rfl | rfl
   ·show (Cn a true).length < _;unfold Cn;simp
   ·show (Cn a false).length < _;unfold Cn;simp
theorem UL {s:aa} (k:Nat) (hk:k < bk s):∃ i:Nat,i < bk s/\idx (gl s) (k:Int)=some (fst s+(i:Int)):=by
 unfold gl;split
 ·rename_i h2;have:k=0\/k=1:=by omega
  rcases this with rfl | rfl
  ·exact ⟨1,by omega,rfl⟩
  ·exact ⟨0,by omega,by rw [show fst s+((0:Nat):Int)=fst s by omega];rfl⟩
 ·refine ⟨k,hk,?_⟩;rw [aF (show k < (mods (fst s) (bk s)).length by simp [mods];exact hk)];simp [mods]
theorem Li (s:aa):fl (B3 s)=fst s:=rfl
theorem MM {c:ax} {x:cP} (hr:VU c x=some 0) (S:dY c) (F:Fit c x) (n:Int) (v:Bool) (h0:0<=n) (h1:n < fl c+c.ah.length) (hv:idx (vals x) n=some v):WG c x n=some (v,0):=by
 unfold WG;have:=S.a1;have:=S.a6;have:=S.i;have:=S.s;have:=F.e;have:=F.i;have:=F.s;rw [hr,za,show ((0:Int) !=0)=false from rfl,cond_false,bn (by omega),cond_false,show AI c=me c from rfl,S.me,za,decide_eq_false (show ¬ n≥fl c+c.ah.length by omega),za,cond_false];rw [aN (s0:=((0:Int),([]:List Bool))) (fun k:Nat=>((k:Int),(x.Ends.take k).flatMap fun v=>[v==0,v==2])) x.Ends.length (show x.Ends.length < 2 ^ 64 by omega) (x.Ends.flatMap fun v=>[v==0,v==2]) (by simp) (fun k hk=>by
  dsimp only;have e:=nP (x.Ends.take k);rw [zbu] at e;rw [bq (by omega),cond_true,aF hk];dsimp only [Option.bind];rw [aO (by rw [e];simp;omega) (by rw [e];simp;omega),an (by omega),zH _ _ _ hk]) (by
  dsimp only;rw [bn (by omega),cond_false,zbC])]
 have e:=nP x.Ends;rw [za,aO (by omega) (by omega),za,aO (by rw [za9];omega) (by rw [za9];omega),za];rw [show (x.Ends.flatMap fun v=>[v==0,v==2])++x.aC++x.cL=vals x from rfl,hv];rfl
def lc (t:Nat->Bool):Nat->Int×Nat
 | 0=>(-1,0)
 | k+1=>if t k then ((k:Int),(lc t k).2+1) else lc t k
theorem Co (t:Nat->Bool):∀ k,(lc t k).2<=k/\((lc t k).2=0->(lc t k).1= -1)/\((lc t k).2≠0->0<=(lc t k).1)
 | 0=>⟨za6 _,fun _=>rfl,fun h=>(h rfl).elim⟩
 | k+1=>by
  obtain ⟨h1,h2,h3⟩:=Co t k;unfold lc;split
  ·exact ⟨by dsimp only;omega,fun h=>by dsimp only at h;omega,fun _=>by dsimp only;omega⟩
  ·exact ⟨by omega,h2,h3⟩
theorem G7 (t:Nat->Bool) (k:Nat):∀ j,(lc t k).2<=(lc t (k+j)).2
 | 0=>za6 _
 | j+1=>by
  have:=G7 t k j;show _<=(lc t (k+j+1)).2;rw [lc];split
  ·dsimp only;omega
  ·exact this
theorem P5 {s:aa} {x:cP} (h:cU s) (S:dY (B3 s)) (F:Fit (B3 s) x) (t:Nat->Bool) (ht:∀ k,k < bk s->∃ m,idx (gl s) (k:Int)=some m/\0<=m/\m < fl (B3 s)+(B3 s).ah.length/\idx (vals x) m=some (t k)):
 WK (B3 s) x (gl s)=some (if (lc t (bk s)).2=1 then (lc t (bk s)).1 else -1):=by
 unfold WK;rw [Uj S F,za];have hg:=(cz h).2.1;have hn:=h.n64;rw [aN (s0:=((-1:Int),(0:Int),(0:Int))) (fun k:Nat=>((lc t k).1,((lc t k).2:Int),(k:Int))) (bk s) (show bk s < 2 ^ 64 by omega) ((lc t (bk s)).1,((lc t (bk s)).2:Int)) rfl (fun k hk=>by
  dsimp only;obtain ⟨m,h1,_,_,h2⟩:=ht k hk;have:=(Co t k).1;rw [bq (show ((k:Nat):Int) < ((gl s).length:Int) by rw [wF];omega),cond_true,h1,za,h2,za,lc,an (show k < 9223372036854775807 by omega)]
  cases t k
  ·rfl
  ·rw [an (by omega)];rfl) (by
  dsimp only;rw [bn (show ¬ ((bk s:Nat):Int) < ((gl s).length:Int) by rw [wF];omega),cond_false])]
 rw [za];by_cases hc:(lc t (bk s)).2=1
 ·rw [hc,if_pos rfl];rfl
 ·rw [show ((((lc t (bk s)).2:Nat):Int) !=1)=true from bne_iff_ne.2 (by omega),if_neg hc];rfl
theorem IK (s:aa) (hs:Small s) (x:cP):∃ r,WH s x=some r/\m39 s x=some r:=by
 unfold WH m39;rw [P4,UM s hs];by_cases he:err s=0
 case neg=>
  rw [if_pos he,za,za,show (err s !=0)=true from bne_iff_ne.2 he];exact ⟨(0,err s),rfl,rfl⟩
 rw [if_neg (by simp [he]),he];simp only [za];obtain ⟨hc,hb⟩:=MH he;have h:=oA hc;have hf:=pV h.a1 h.a6;have hg:=(cz h).2.1;have hn:=h.n64;rw [show ((0:Int) !=0)=false from rfl,cond_false,cond_false,UN h];simp only [za];obtain ⟨e,h1,h2,h3⟩:=L7 (B3 s) (IJ h) x;rw [h1,h2,za,za];by_cases Jl:e=0
 case neg=>
  rw [show (e !=0)=true from bne_iff_ne.2 Jl];exact ⟨(0,e),rfl,rfl⟩
 subst Jl;obtain ⟨S,F⟩:=h3 rfl;have j4:=P2 (s:=s);let t:Nat->Bool:=fun k=>match idx (gl s) (k:Int) with
  | some m=>(idx (vals x) m).getD false
  | none=>false
 have ht:∀ k,k < bk s->∃ m,idx (gl s) (k:Int)=some m/\0<=m/\m < fl (B3 s)+(B3 s).ah.length/\idx (vals x) m=some (t k):=fun k hk=>by
  obtain ⟨i,hi,hp⟩:=UL (s:=s) k hk;have hv:=L9 S F i (by omega);have:=F.s;rw [aF (show i < x.cL.length by omega),Li] at hv;refine ⟨_,hp,by omega,by rw [Li];omega,?_⟩;have:t k=(idx (vals x) (fst s+(i:Int))).getD false:=by
   show (match idx (gl s) (k:Int) with | some m=>(idx (vals x) m).getD false | none=>false)=_;rw [hp]
  rw [this,hv];rfl
 rw [A2 h];simp only [za];rw [P5 h S F t ht,show ((0:Int) !=0)=false from rfl];simp only [za,cond_false];refine ⟨if (lc t (bk s)).2=1 then ((lc t (bk s)).1,0) else (0,14),?_,?_⟩
 ·obtain ⟨r,q1,q2⟩:=zV (body:=fun s5:Int×Int=>((bif (decide (s5.2 < ((gl s).length:Int))) then (idx (gl s) s5.2).bind fun v7=>(WG (B3 s) x v7).bind fun v9=>(bif (v9.2 !=0) then some (.inr (.inr (0,v9.2))) else ((bif v9.1 then some (decide (s5.1≥0)) else some false):Option (Bool)).bind fun Js=>(bif Js then some (.inr (.inr (0,14))) else ((bif v9.1 then some s5.2 else some s5.1):Option (Int)).bind fun tZ=>some (.inl (tZ,(aI .i64 s5.2 1))))) else some (.inr (.inl s5.1))):Option ((Int×Int)⊕((Int)⊕(Int×Int))))) (t0:= -1) (bk s) (show bk s < 2 ^ 64 by omega)
   (fun k v=>k<=bk s/\v=(lc t k).1/\(lc t k).2<=1) (fun r=>match r with
    | .inl v=>v=(lc t (bk s)).1/\(lc t (bk s)).2<=1
    | .inr r=>r=(0,14)/\2<=(lc t (bk s)).2) ⟨zaJ _,rfl,by show (0:Nat)<=1;omega⟩ (by
   rintro k v hk ⟨_,rfl,hl⟩;dsimp only;by_cases hkk:k < bk s
   ·obtain ⟨m,h4,h5,h6,h7⟩:=ht k hkk;obtain ⟨l1,l2,l3⟩:=Co t k;rw [bq (show ((k:Nat):Int) < ((gl s).length:Int) by rw [wF];omega),cond_true,h4,za,MM h1 S F m (t k) h5 h6 h7,za,show ((0:Int) !=0)=false from rfl,cond_false,an (by omega)];have Cp:lc t (k+1)=if t k then ((k:Int),(lc t k).2+1) else lc t k:=rfl
    cases WU:t k
    ·refine .inl ⟨(lc t k).1,hkk,rfl,hkk,?_,?_⟩
     ·rw [Cp,WU];rfl
     ·rw [Cp,WU];exact hl
    ·by_cases hz:(lc t k).2=0
     ·rw [l2 hz];refine .inl ⟨(k:Int),hkk,rfl,hkk,?_,?_⟩
      ·rw [Cp,WU];rfl
      ·rw [Cp,WU,if_pos rfl];dsimp only;omega
     ·have hp:=l3 hz;rw [cond_true,za,decide_eq_true hp];refine .inr ⟨_,rfl,rfl,?_⟩;have:=G7 t (k+1) (bk s - (k+1));rw [show k+1+(bk s - (k+1))=bk s by omega,Cp,WU,if_pos rfl] at this;dsimp only at this;omega
   ·have:k=bk s:=by omega
    subst this;rw [bn (show ¬ ((bk s:Nat):Int) < ((gl s).length:Int) by rw [wF];omega),cond_false];exact .inr ⟨_,rfl,rfl,hl⟩)
  rw [q1];obtain ⟨l1,l2,l3⟩:=Co t (bk s);rcases r with v | r
  ·obtain ⟨rfl,hl⟩:=q2;show (bif decide ((lc t (bk s)).1 < 0) then _ else _)=_;by_cases hz:(lc t (bk s)).2=0
   ·rw [l2 hz,if_neg (by omega)];rfl
   ·have:=l3 hz;rw [bn (by omega),if_pos (by omega)];rfl
  ·obtain ⟨rfl,hl⟩:=q2;rw [if_neg (by omega)];rfl
 ·obtain ⟨l1,l2,l3⟩:=Co t (bk s);by_cases hz:(lc t (bk s)).2=1
  ·have:=l3 (by omega);rw [if_pos hz,if_pos hz,bn (by omega),cond_false]
  ·rw [if_neg hz,if_neg hz];rfl
theorem P6:ZX=some true:=rfl
theorem UO (s:aa) (x:cP):m9 s x=some true:=by
 obtain ⟨b,hb,hS⟩:=MJ s;obtain ⟨c,hx⟩:=MK x;unfold m9;rw [hb,hx,za]
 cases b with
 | false=>rfl
 | true=>
  cases c with
  | false=>rfl
  | true=>
   show (WH s x).bind _=_;obtain ⟨r,h1,h2⟩:=IK s (hS rfl) x;rw [h1,h2,P6];simp
end cK
end
