/- Parts of my machine and its laws, joined: P34n P34o P34p P34q P34r P34s. No condition. -/
import Derived.Test.YtafgdbaekppjcaaGreatDoorP34c
import Derived.Test.YtafgdbaekppjcaaGreatDoorP33h
import Derived.KernelRfl
set_option linter.unusedSectionVars false
set_option linter.unusedVariables false
set_option linter.unusedSimpArgs false
section
namespace cQ
open Go Go.Pl
set_option linter.unusedVariables false
set_option linter.unusedSimpArgs false
theorem Qx (c:aA):(⟨c.U,c.aE,c.af,c.bW,c.aY⟩:aA)=c:=rfl
theorem rI (x:ah):FQ x=some (x.Op==0&&(x.Index==0&&(x.au.length:Int)==0)):=by
 unfold FQ
 cases x.Op==0<;>cases x.Index==0<;>rfl
theorem M1 {c:aA} (h:dQ c) (L:MP) (i:Nat) (hi:i < c.af.length) (hx:tQ c.af[i].On (fl c+c.af.length)=some 0):
 ∃ b,Ef (i:Int) (L.map (·.1)) (L.map (·.2)) c.U c.aE c.af c.bW c.aY=some (.inl ((if nQ (lp c i) c.af[i].On then 9 else if (!(c.af[i].iN.Op==0&&(c.af[i].iN.Index==0&&(c.af[i].iN.au.length:Int)==0))||c.af[i].Init||c.af[i].ep !=0) then 3 else 0),L.map (·.1),L.map (·.2),c.U,c.aE,c.af,c.bW,c.aY,b,(i:Int))):=by
 obtain ⟨h1,h2,h3⟩:=A8 hx;refine ⟨nQ (lp c i) c.af[i].On,?_⟩;unfold Ef HK;rw [aK hi,dm];dsimp only [Option.bind];rw [eta,EP L c h i fuel _ false h1 (show _<=2 ^ 64 by omega) h3];dsimp only [Sum.elim_inl];rw [Bool.false_or,eta,show G7 c.af[i].iN=FQ c.af[i].iN from rfl,rI];dsimp only
 cases nQ (lp c i) c.af[i].On
 ·generalize (c.af[i].iN.Op==0&&(c.af[i].iN.Index==0&&(c.af[i].iN.au.length:Int)==0))=z;generalize c.af[i].Init=w;generalize (c.af[i].ep !=0)=d;simp only [dm]
  cases z<;>cases w<;>cases d<;>simp [dm]
 ·rw [cond_true,dm];rfl
theorem F7 {c:aA} (h:dQ c) (L:MP) (i:Nat) (hi:i < c.af.length) (e:Int) (hx:tQ c.af[i].iN (fl c+c.af.length)=some e):
 Ee (i:Int) (L.map (·.1)) (L.map (·.2)) c.U c.aE c.af c.bW c.aY=some (.inl ((if e≠0 then e else if c.af[i].ep≠0 then 3 else 0),L.map (·.1),L.map (·.2),c.U,c.aE,c.af,c.bW,c.aY)):=by
 unfold Ee;rw [aK hi,dm,Qx,show CT c=lY c from rfl,h.lY];dsimp only [Option.bind];rw [eta,ET,hx];dsimp only;by_cases he:e=0
 ·subst he;rw [show ((0:Int) !=0)=false from rfl,cond_false];by_cases hd:c.af[i].ep=0
  ·rw [hd];rfl
  ·rw [bne_iff_ne.2 hd,cond_true];simp [hd]
 ·rw [bne_iff_ne.2 he,cond_true];simp [he]
theorem Kg {c:aA} (L:MP) (i:Nat) (hi:i < c.af.length):
 Ed (i:Int) (L.map (·.1)) (L.map (·.2)) c.U c.aE c.af c.bW c.aY=some (.inl ((if (decide (c.af[i].ep < 1)||decide (c.af[i].ep > 1000000)) then 2 else if (!(c.af[i].iN.Op==0&&(c.af[i].iN.Index==0&&(c.af[i].iN.au.length:Int)==0))||c.af[i].Init) then 3 else 0),L.map (·.1),L.map (·.2),c.U,c.aE,c.af,c.bW,c.aY)):=by
 unfold Ed;rw [aK hi,dm];dsimp only [Option.bind];rw [eta,show G7 c.af[i].iN=FQ c.af[i].iN from rfl,rI];dsimp only;generalize (c.af[i].iN.Op==0&&(c.af[i].iN.Index==0&&(c.af[i].iN.au.length:Int)==0))=z;generalize c.af[i].Init=w;generalize decide (c.af[i].ep < 1)=d;generalize decide (c.af[i].ep > 1000000)=f
 cases z<;>cases w<;>cases d<;>cases f<;>simp [dm]
end cQ
end
section
namespace cQ
open Go Go.Pl
set_option linter.unusedVariables false
set_option linter.unusedSimpArgs false
theorem yh {c:aA} (h:dQ c) (ht:ua c) (i:Nat) (hi:i < c.af.length) {L:MP} (k:Nat) (hk:(k:Int)=fl c+i) (hL:iq c k L):
 ∃ (e:Int) (L':MP),Ak c (i:Int)=some e/\Eg (i:Int) (L.map (·.1)) (L.map (·.2)) c.U c.aE c.af c.bW c.aY=some (.inl (e,L'.map (·.1),L'.map (·.2),c.U,c.aE,c.af,c.bW,c.aY))/\(e=0->iq c (k+1) L'):=by
 have:=h.Tf;have:=h.s;obtain ⟨e,L',h1,h2,h3⟩:=Bq h ht k (by omega) hL;rw [R1 h i hi k hk] at h2;unfold Ak Eg;rw [aK hi,h.qM,dm];dsimp only [Option.bind];rw [bH (by omega) (by omega),<-hk,h1,h2];dsimp only [Sum.elim_inl];by_cases he:e=0
 case neg=>
  rw [bne_iff_ne.2 he,cond_true,cond_true,dm];exact ⟨e,L',rfl,rfl,fun h0=>(he h0).elim⟩
 subst he;have h3:=h3 rfl;rw [show ((0:Int) !=0)=false from rfl,cond_false,cond_false];by_cases k0:c.af[i].Kind < 0
 ·rw [bO k0];simp only [cond_true,dm];exact ⟨1,L',rfl,rfl,fun h0=>by cases h0⟩
 rw [bF k0];simp only [cond_false];by_cases k3:c.af[i].Kind≥3
 ·rw [decide_eq_true k3];simp only [cond_true,dm];exact ⟨1,L',rfl,rfl,fun h0=>by cases h0⟩
 rw [decide_eq_false k3];simp only [cond_false,dm,Qx,eta,ET,show CT c=lY c from rfl,h.lY,Option.bind_some];obtain ⟨v,hv⟩:=we c.af[i].On (fl c+c.af.length);rw [hv];dsimp only [Option.bind];by_cases FJ:v=0
 case neg=>
  rw [bne_iff_ne.2 FJ,cond_true,cond_true];exact ⟨v,L',rfl,rfl,fun h0=>(FJ h0).elim⟩
 subst FJ;rw [show ((0:Int) !=0)=false from rfl,cond_false,cond_false,rI];obtain ⟨o1,o2,o3⟩:=A8 hv;have hk:c.af[i].Kind=0\/c.af[i].Kind=1\/c.af[i].Kind=2:=by omega
 rcases hk with hk | hk | hk
 ·obtain ⟨b,hg⟩:=M1 h L' i hi hv;rw [if_pos hk,hg,hk,M0 c h i hi o1 o2 o3];dsimp only [Sum.elim_inl];simp only [dm];refine ⟨_,L',?_,rfl,fun _=>h3⟩;show (bif nQ (lp c i) c.af[i].On then some 9 else _)=_
  cases nQ (lp c i) c.af[i].On
  ·generalize (c.af[i].iN.Op==0&&(c.af[i].iN.Index==0&&(c.af[i].iN.au.length:Int)==0))=z;generalize c.af[i].Init=w;generalize (c.af[i].ep !=0)=d
   cases z<;>cases w<;>cases d<;>rfl
  ·rfl
 ·obtain ⟨e,he⟩:=we c.af[i].iN (fl c+c.af.length);rw [if_neg (by omega),if_pos hk,F7 h L' i hi e he,hk,he];dsimp only [Sum.elim_inl];simp only [dm];refine ⟨_,L',?_,rfl,fun _=>h3⟩;by_cases FH:e=0
  ·subst FH;show (bif c.af[i].ep !=0 then some (3:Int) else some 0)=_;by_cases hd:c.af[i].ep=0
   ·rw [hd];rfl
   ·rw [bne_iff_ne.2 hd];simp [hd]
  ·rw [show (e !=0)=true from bne_iff_ne.2 FH,if_pos FH];rfl
 ·rw [if_neg (by omega),if_neg (by omega),if_pos hk,Kg L' i hi,hk];dsimp only [Sum.elim_inl];simp only [dm];refine ⟨_,L',?_,rfl,fun _=>h3⟩;generalize (c.af[i].iN.Op==0&&(c.af[i].iN.Index==0&&(c.af[i].iN.au.length:Int)==0))=z;generalize c.af[i].Init=w;generalize decide (c.af[i].ep < 1)=d;generalize decide (c.af[i].ep > 1000000)=f
  cases z<;>cases w<;>cases d<;>cases f<;>rfl
end cQ
end
section
namespace cQ
open Go Go.Pl
set_option linter.unusedVariables false
set_option linter.unusedSimpArgs false
def wG (n v:Int):Bool:=decide (v < 0)||decide (v≥n)
theorem x9 {α β γ:Type} (f:α->β) (g:γ->Option α):∀ l:List γ,l.findSome? (fun j=>(g j).map f)=(l.findSome? g).map f
 | []=>rfl
 | x::l=>by
  rw [List.findSome?_cons,List.findSome?_cons,x9 f g l]
  cases g x<;>rfl
theorem BH (n:Int):∀ l:List Int,l.findSome? (fun v=>if wG n v then some (6:Int) else none)=if l.any (wG n) then some 6 else none
 | []=>rfl
 | x::l=>by
  rw [List.findSome?_cons,BH n l,List.any_cons]
  cases wG n x<;>rfl
theorem NO {c:aA} (h:dQ c) (l:List Int) (hl:l.length < 2 ^ 62):
 qe l c.U c.aE c.af c.bW c.aY=some (l.any (wG (fl c+c.af.length))):=by
 unfold qe uR;rw [bn (s0:=(0:Int)) (fun k:Nat=>(k:Int)) (fun k=>(l[k]?).bind fun v=>if wG (fl c+c.af.length) v then some (k:Int) else none) l.length (show l.length < 2 ^ 64 by omega) () rfl (fun k hk _=>by
  rw [bO (show ((k:Nat):Int) < (l.length:Int) by omega),cond_true,aK hk,List.getElem?_eq_getElem hk];dsimp only [Option.bind];unfold Qf;rw [Qx,show CT c=lY c from rfl,h.lY,ay (by omega)];unfold wG;dsimp only [Option.bind]
  cases decide (l[k] < 0)<;>cases decide (l[k]≥fl c+c.af.length)<;>rfl) (fun _=>by rw [bF (by omega),cond_false])]
 cases hf:first l.length (fun k=>(l[k]?).bind fun v=>if wG (fl c+c.af.length) v then some (k:Int) else none) with
 | none=>
  have:l.any (wG (fl c+c.af.length))=false:=List.any_eq_false.2 fun x hx hn=>by
   obtain ⟨i,hi,rfl⟩:=List.getElem_of_mem hx;have:=bR.1 hf i hi;rw [List.getElem?_eq_getElem hi] at this;dsimp only [Option.bind] at this;rw [if_pos hn] at this;cases this
  rw [this];rfl
 | some r=>
  obtain ⟨k,hk,hr⟩:=List.exists_of_findSome?_eq_some hf;have hk:=List.mem_range.1 hk;rw [List.getElem?_eq_getElem hk] at hr;dsimp only [Option.bind] at hr;split at hr
  ·rename_i hn;injection hr with hr;subst hr
   rw [List.any_eq_true.2 ⟨l[k],List.getElem_mem hk,hn⟩];show some (decide ((k:Int)≥0))=_;rw [decide_eq_true (by omega)]
  ·cases hr
theorem Gp {c:aA} (h:dQ c):Mb c=some (if (c.bW.length:Int)≠c.U\/(c.aY.length:Int)≠c.U then 8 else if (c.bW++c.aY).any (wG (fl c+c.af.length)) then 6 else 0):=by
 unfold Mb;have:=h.a6;by_cases h1:(c.bW.length:Int)=c.U
 case neg=>
  rw [show ((c.bW.length:Int) !=c.U)=true from bne_iff_ne.2 h1,cond_true,if_pos (.inl h1)];rfl
 rw [show ((c.bW.length:Int) !=c.U)=false from by rw [h1];exact bne_self_eq_false _,cond_false];by_cases h2:(c.aY.length:Int)=c.U
 case neg=>
  rw [show ((c.aY.length:Int) !=c.U)=true from bne_iff_ne.2 h2,if_pos (.inr h2)];rfl
 rw [show ((c.aY.length:Int) !=c.U)=false from by rw [h2];exact bne_self_eq_false _,if_neg (by rintro (h | h);exact h h1;exact h h2)];rw [Option.bind_some,cond_false];have inner:∀ l:List Int,l.length < 2 ^ 62->iter (fun s5:Int=>((bif (decide (s5 < (l.length:Int))) then ((idx l s5).bind fun v8=>(bif (decide (v8 < 0)) then some true else (idx l s5).bind fun v9=>(lY c).bind fun v10=>some (decide (v9≥v10))):Option (Bool)).bind fun w7=>(bif w7 then some (.inr (.inr (.inr (.inr 6)))) else some (.inl (aO .i64 s5 1))) else some (.inr (.inl ()))):Option ((Int)⊕((Unit)⊕((Int)⊕((Unit)⊕Int)))))) 0=some (if l.any (wG (fl c+c.af.length)) then .inr (.inr (.inr 6)) else .inl ()):=fun l hl=>by
  rw [dJ (s0:=(0:Int)) l (fun v=>(if wG (fl c+c.af.length) v then some (6:Int) else none).map (fun r=>(Sum.inr (Sum.inr r):Int⊕(Unit⊕Int)))) (show l.length < 2 ^ 64 by omega) () rfl (fun k hk=>by
   rw [bO (show ((k:Nat):Int) < (l.length:Int) by omega),cond_true,aK hk,h.lY,ay (by omega)];unfold wG;dsimp only [Option.bind]
   cases decide (l[k] < 0)<;>cases decide (l[k]≥fl c+c.af.length)<;>rfl) (by rw [bF (by omega),cond_false])]
  have:l.findSome? (fun v=>(if wG (fl c+c.af.length) v then some (6:Int) else none).map (fun r=>(Sum.inr (Sum.inr r):Int⊕(Unit⊕Int))))=(if l.any (wG (fl c+c.af.length)) then some 6 else none).map (fun r=>(Sum.inr (Sum.inr r):Int⊕(Unit⊕Int))):=by
   rw [<-BH];exact x9 _ _ l
  rw [this]
  cases l.any (wG (fl c+c.af.length))<;>rfl
 rw [List.any_append];rw [bn (s0:=(0:Int)) (fun k:Nat=>(k:Int)) (fun k=>if (if k=0 then c.bW else c.aY).any (wG (fl c+c.af.length)) then some (6:Int) else none) 2 (show 2 < 2 ^ 64 by omega) () rfl (fun k hk _=>by
  have hk2:k=0\/k=1:=by omega
  rcases hk2 with rfl | rfl
  ·rw [show decide (((0:Nat):Int) < 2)=true from rfl,cond_true,if_pos (show ((0:Nat):Int)=0 from rfl)];rw [Option.bind_some,inner c.bW (by omega),if_pos (show (0:Nat)=0 from rfl)]
   cases c.bW.any (wG (fl c+c.af.length))<;>rfl
  ·rw [show decide (((1:Nat):Int) < 2)=true from rfl,cond_true,if_neg (show ¬ ((1:Nat):Int)=0 by omega),if_pos (show ((1:Nat):Int)=1 from rfl)];rw [Option.bind_some,inner c.aY (by omega),if_neg (show ¬ (1:Nat)=0 by omega)]
   cases c.aY.any (wG (fl c+c.af.length))<;>rfl) (fun _=>rfl)]
 unfold first
 rw [show List.range 2=[0,1] from rfl,List.findSome?_cons,List.findSome?_cons,List.findSome?_nil];simp only [if_pos (show (0:Nat)=0 from rfl),if_neg (show ¬ (1:Nat)=0 by omega),if_true]
 cases c.bW.any (wG (fl c+c.af.length))<;>cases c.aY.any (wG (fl c+c.af.length))<;>rfl
end cQ
end
section
namespace cQ
open Go Go.Pl
set_option linter.unusedVariables false
set_option linter.unusedSimpArgs false
abbrev Xn:=(List (List UInt8))×(List Int)×Int×(List (List UInt8))×(List ak)×(List Int)×(List Int)
def GP (c:aA) (L:MP):Xn:=(L.map (·.1),L.map (·.2),c.U,c.aE,c.af,c.bW,c.aY)
theorem Lg (c:aA) (k:Nat):iq c k ((List.range k).map fun j=>(nm c j,0)):=fun y=>by
 rw [List.map_map,List.mem_map];exact ⟨fun ⟨j,h,e⟩=>⟨j,List.mem_range.1 h,e⟩,fun ⟨j,h,e⟩=>⟨j,List.mem_range.2 h,e⟩⟩
theorem Jr (c:aA) (ht:ua c):∃ e,m64 c=some e/\S1 c=some e:=by
 unfold m64 S1;by_cases h1:c.U < 1
 ·rw [bO h1];exact ⟨2,rfl,rfl⟩
 rw [bF h1,cond_false,Option.bind_some];by_cases h2:c.U > 6
 ·rw [decide_eq_true h2];exact ⟨2,rfl,rfl⟩
 rw [decide_eq_false h2,cond_false];by_cases h3:(c.aE.length:Int) > 16
 ·rw [decide_eq_true h3];exact ⟨5,rfl,rfl⟩
 rw [decide_eq_false h3,cond_false,Option.bind_some];by_cases h4:(c.af.length:Int) > 64
 ·rw [decide_eq_true h4];exact ⟨5,rfl,rfl⟩
 rw [decide_eq_false h4,cond_false];have h:dQ c:=⟨by omega,by omega,by omega,by omega⟩;have hf:=h.Tf;have:=h.a1;have:=h.a6;have:=h.i;have:=h.s;have hfl:fl c=2*c.U+c.aE.length:=rfl;obtain ⟨A,hA⟩:∃ A:Nat,c.U=(A:Int):=⟨c.U.toNat,by omega⟩;rw [show dw .i64 2 c.U=((2*A:Nat):Int) by rw [iA (by omega) (by omega)];omega];refine qo (τ:=Xn) (2*A) (show 2*A < 2 ^ 64 by omega) (fun k t=>∃ L,iq c k L/\t=GP c L) (fun r=>∃ L,iq c (2*A) L/\r=GP c L) ⟨[],iq.zero c,rfl⟩ ?_ ?_
 ·rintro k t hk ⟨L,hL,rfl⟩;unfold GP;dsimp only;by_cases hkk:k < 2*A
  ·rw [bO (show ((k:Nat):Int) < ((2*A:Nat):Int) by omega),cond_true,Jp c (by omega) (by omega) _ (by omega),(zf h ht k (by omega)).1];simp only [dm,Option.bind_some,ay (show k < 9223372036854775807 by omega)];exact .inl ⟨_,hkk,rfl,_,hL.more fun y=>zB _ _ _ _,rfl⟩
  ·have:k=2*A:=by omega
   subst this;rw [bF (by omega),cond_false];simp only [dm];exact .inr ⟨_,rfl,L,hL,rfl⟩
 rintro r ⟨L,hL,rfl⟩;unfold GP;simp only [dm];let g1:Nat->Option Int:=fun i=>(wJ c ((2*A+i:Nat):Int)).bind fun e=>if e≠0 then some e else none
 have GM:iter (fun s3:Int=>((bif (decide (s3 < (c.aE.length:Int))) then (wJ c (aO .i64 ((2*A:Nat):Int) s3)).bind fun v5=>(bif (v5 !=0) then some (.inr (.inr v5)) else some (.inl (aO .i64 s3 1))) else some (.inr (.inl ()))):Option ((Int)⊕((Unit)⊕Int)))) 0=some (match first c.aE.length g1 with | none=> .inl () | some r=> .inr r):=by
  rw [bn (s0:=(0:Int)) (fun i:Nat=>(i:Int)) g1 c.aE.length (show c.aE.length < 2 ^ 64 by omega) () rfl (fun i hi _=>by
   rw [bO (show ((i:Nat):Int) < (c.aE.length:Int) by omega),cond_true,bH (by omega) (by omega),show ((2*A:Nat):Int)+(i:Int)=((2*A+i:Nat):Int) by omega];rw [show g1 i=(wJ c ((2*A+i:Nat):Int)).bind fun e=>if e≠0 then some e else none from rfl,Bp h ht (2*A+i) (by omega)];generalize Ta _ _=e;rw [Option.bind_some,Option.bind_some,ay (by omega)];by_cases he:e=0
   ·subst he;rfl
   ·rw [show (e !=0)=true from bne_iff_ne.2 he,if_pos he];rfl) (fun _=>by rw [bF (by omega),cond_false])]
  cases first c.aE.length g1<;>rfl
 rw [GM];let g2:Nat->Option Int:=fun i=>(Ak c (i:Int)).bind fun e=>if e≠0 then some e else none
 have hd2:iter (fun s6:Int=>((bif (decide (s6 < (c.af.length:Int))) then (Ak c s6).bind fun v8=>(bif (v8 !=0) then some (.inr (.inr v8)) else some (.inl (aO .i64 s6 1))) else some (.inr (.inl ()))):Option ((Int)⊕((Unit)⊕Int)))) 0=some (match first c.af.length g2 with | none=> .inl () | some r=> .inr r):=by
  rw [bn (s0:=(0:Int)) (fun i:Nat=>(i:Int)) g2 c.af.length (show c.af.length < 2 ^ 64 by omega) () rfl (fun i hi _=>by
   rw [bO (show ((i:Nat):Int) < (c.af.length:Int) by omega),cond_true];rw [show g2 i=(Ak c (i:Int)).bind fun e=>if e≠0 then some e else none from rfl];obtain ⟨e,_,he,_⟩:=yh h ht i hi (2*A+c.aE.length+i) (by omega) (Lg c _);rw [he,Option.bind_some,Option.bind_some,ay (by omega)];by_cases he:e=0
   ·subst he;rfl
   ·rw [show (e !=0)=true from bne_iff_ne.2 he,if_pos he];rfl) (fun _=>by rw [bF (by omega),cond_false])]
  cases first c.af.length g2<;>rfl
 rw [hd2,Gp h];refine qo (τ:=Xn) c.aE.length (show c.aE.length < 2 ^ 64 by omega) (fun i t=>(∃ L,iq c (2*A+i) L/\t=GP c L)/\∀ j,j < i->g1 j=none)
  (fun r=>match r with
   | .inl t=>(∃ L,iq c (2*A+c.aE.length) L/\t=GP c L)/\first c.aE.length g1=none
   | .inr e=>first c.aE.length g1=some e) ⟨⟨L,hL,rfl⟩,fun j hj=>by omega⟩ ?_ ?_
 ·rintro i t hi ⟨⟨L,hL,rfl⟩,hj⟩;unfold GP;dsimp only;by_cases wY:i < c.aE.length
  ·obtain ⟨e,L',e1,e2,e3⟩:=Bq h ht (2*A+i) (by omega) hL;rw [VX h i wY (2*A+i) (by omega)] at e2;rw [bO (show ((i:Nat):Int) < (c.aE.length:Int) by omega),cond_true,aK wY];simp only [dm,Option.bind_some,e2,Sum.elim_inl];have hg:g1 i=if e≠0 then some e else none:=by
    show (wJ c ((2*A+i:Nat):Int)).bind _=_;rw [e1];rfl
   by_cases he:e=0
   ·subst he;refine .inl ⟨_,wY,?_,⟨L',e3 rfl,rfl⟩,fun j hj'=>?_⟩
    ·rw [ay (by omega)];rfl
    ·by_cases e:j=i
     ·subst e;rw [hg];rfl
     ·exact hj j (by omega)
   ·rw [show (e !=0)=true from bne_iff_ne.2 he,cond_true];exact .inr ⟨_,rfl,oU wY hj (by rw [hg,if_pos he])⟩
  ·have:i=c.aE.length:=by omega
   subst this;rw [bF (by omega),cond_false];simp only [dm];exact .inr ⟨_,rfl,⟨L,hL,rfl⟩,ld hj⟩
 rintro (r | r) hr
 case inr=>
  have hr:first c.aE.length g1=some r:=hr
  rw [hr];exact ⟨r,rfl,rfl⟩
 obtain ⟨⟨L,hL,rfl⟩,hr⟩:=hr;rw [hr];unfold GP;simp only [dm,Sum.elim_inl,Option.bind_some];refine qo (τ:=Xn) c.af.length (show c.af.length < 2 ^ 64 by omega) (fun i t=>(∃ L,iq c (2*A+c.aE.length+i) L/\t=GP c L)/\∀ j,j < i->g2 j=none)
  (fun r=>match r with
   | .inl t=>(∃ L,t=GP c L)/\first c.af.length g2=none
   | .inr e=>first c.af.length g2=some e) ⟨⟨L,hL,rfl⟩,fun j hj=>by omega⟩ ?_ ?_
 ·rintro i t hi ⟨⟨L,hL,rfl⟩,hj⟩;unfold GP;dsimp only;by_cases wY:i < c.af.length
  ·obtain ⟨e,L',e1,e2,e3⟩:=yh h ht i wY (2*A+c.aE.length+i) (by omega) hL;rw [bO (show ((i:Nat):Int) < (c.af.length:Int) by omega),cond_true];simp only [dm,Option.bind_some,e2,Sum.elim_inl];have hg:g2 i=if e≠0 then some e else none:=by
    show (Ak c (i:Int)).bind _=_;rw [e1];rfl
   by_cases he:e=0
   ·subst he;refine .inl ⟨_,wY,?_,⟨L',e3 rfl,rfl⟩,fun j hj'=>?_⟩
    ·rw [ay (by omega)];rfl
    ·by_cases e:j=i
     ·subst e;rw [hg];rfl
     ·exact hj j (by omega)
   ·rw [show (e !=0)=true from bne_iff_ne.2 he,cond_true];exact .inr ⟨_,rfl,oU wY hj (by rw [hg,if_pos he])⟩
  ·have:i=c.af.length:=by omega
   subst this;rw [bF (by omega),cond_false];simp only [dm];exact .inr ⟨_,rfl,⟨L,rfl⟩,ld hj⟩
 rintro (r | r) hr
 case inr=>
  have hr:first c.af.length g2=some r:=hr
  rw [hr];exact ⟨r,rfl,rfl⟩
 obtain ⟨⟨L,rfl⟩,hr⟩:=hr;rw [hr];unfold GP;simp only [dm,Sum.elim_inl,Option.bind_some];by_cases p1:(c.bW.length:Int)=c.U
 case neg=>
  rw [show ((c.bW.length:Int) !=c.U)=true from bne_iff_ne.2 p1,cond_true,if_pos (.inl p1)];exact ⟨8,rfl,rfl⟩
 rw [show ((c.bW.length:Int) !=c.U)=false from by rw [p1];exact bne_self_eq_false _,cond_false];by_cases p2:(c.aY.length:Int)=c.U
 case neg=>
  rw [show ((c.aY.length:Int) !=c.U)=true from bne_iff_ne.2 p2,if_pos (.inr p2)];exact ⟨8,rfl,rfl⟩
 rw [show ((c.aY.length:Int) !=c.U)=false from by rw [p2];exact bne_self_eq_false _,if_neg (by rintro (h | h);exact h p1;exact h p2)];simp only [Option.bind_some,cond_false,dm];have p1':(c.bW.length:Int)=(A:Int):=by omega
 have p2':(c.aY.length:Int)=(A:Int):=by omega
 rw [bh (s0:=((0:Int),(0:Int),L.map (·.1),L.map (·.2),c.U,c.aE,c.af,c.bW,c.aY,[c.bW,c.aY])) (fun k:Nat=>(((k*A:Nat):Int),(k:Int),L.map (·.1),L.map (·.2),c.U,c.aE,c.af,c.bW,c.aY,[c.bW,c.aY])) 2 (show 2 < 2 ^ 64 by omega)
  (((2*A:Nat):Int),L.map (·.1),L.map (·.2),c.U,c.aE,c.af,c.bW,c.aY,[c.bW,c.aY]) (by simp) (fun k hk=>by
    dsimp only;have hk2:k=0\/k=1:=by omega
    rcases hk2 with rfl | rfl
    ·rw [show decide (((0:Nat):Int) < 2)=true from rfl,cond_true,show idx [c.bW,c.aY] ((0:Nat):Int)=some c.bW from rfl];simp only [Option.bind_some,dm];rw [p1',bH (by omega) (by omega),bF (by omega),cond_false];simp only [Nat.zero_mul,Nat.zero_add,Nat.one_mul];rw [show ((0:Nat):Int)+(A:Int)=(A:Int) by omega];rfl
    ·rw [show decide (((1:Nat):Int) < 2)=true from rfl,cond_true,show idx [c.bW,c.aY] ((1:Nat):Int)=some c.aY from rfl];simp only [Option.bind_some,dm];rw [p2',bH (by omega) (by omega),bF (by omega),cond_false];rw [show ((1*A:Nat):Int)+(A:Int)=(((1+1)*A:Nat):Int) by omega];rfl) (by
    dsimp only;rw [show decide (((2:Nat):Int) < 2)=false from rfl,cond_false,dm])]
 simp only [Option.bind_some,dm];rw [bF (show ¬ ((2*A:Nat):Int) < 0 by omega),cond_false,show dF .i64 0 0=0 from rfl,ef (by omega) (by omega),decide_eq_true (show ((2*A:Nat):Int) - 0 > 0 by omega),cond_true];unfold LG;rw [if_pos (by omega)];simp only [Option.bind_some,if_true];rw [bh (s0:=((0:Int),L.map (·.1),L.map (·.2),c.U,c.aE,c.af,c.bW,c.aY,[c.bW,c.aY],([]:List Int))) (fun k:Nat=>((k:Int),L.map (·.1),L.map (·.2),c.U,c.aE,c.af,c.bW,c.aY,[c.bW,c.aY],(if k=0 then [] else if k=1 then c.bW else c.bW++c.aY))) 2 (show 2 < 2 ^ 64 by omega)
  (L.map (·.1),L.map (·.2),c.U,c.aE,c.af,c.bW,c.aY,[c.bW,c.aY],c.bW++c.aY) (by simp) (fun k hk=>by
   dsimp only;have hk2:k=0\/k=1:=by omega
   rcases hk2 with rfl | rfl
   ·rw [show decide (((0:Nat):Int) < (([c.bW,c.aY]:List (List Int)).length:Int))=true from rfl,cond_true,show idx [c.bW,c.aY] ((0:Nat):Int)=some c.bW from rfl];simp only [Option.bind_some,dm];rw [if_pos trivial,aU (by simp;omega) (by simp;omega)];rfl
   ·rw [show decide (((1:Nat):Int) < (([c.bW,c.aY]:List (List Int)).length:Int))=true from rfl,cond_true,show idx [c.bW,c.aY] ((1:Nat):Int)=some c.aY from rfl];simp only [Option.bind_some,dm];simp only [if_neg (show ¬ (1:Nat)=0 by omega),if_true];rw [aU (by omega) (by omega)];rfl) (by
   dsimp only;rw [show decide (((2:Nat):Int) < (([c.bW,c.aY]:List (List Int)).length:Int))=false from rfl,cond_false,dm];rfl)]
 simp only [Option.bind_some];rw [NO h _ (by rw [List.length_append];omega)]
 cases (c.bW++c.aY).any (wG (fl c+c.af.length))
 ·exact ⟨0,rfl,rfl⟩
 ·exact ⟨6,rfl,rfl⟩
end cQ
end
section
namespace cQ
open Go Go.Pl
set_option linter.unusedVariables false
set_option linter.unusedSimpArgs false
theorem B1 {c:aA} (h:S1 c=some 0):dQ c:=by
 unfold S1 at h;by_cases h1:c.U < 1
 ·rw [bO h1] at h;exact absurd h (by simp)
 rw [bF h1,cond_false,Option.bind_some] at h;by_cases h2:c.U > 6
 ·rw [decide_eq_true h2] at h;exact absurd h (by simp)
 rw [decide_eq_false h2,cond_false] at h;by_cases h3:(c.aE.length:Int) > 16
 ·rw [decide_eq_true h3] at h;exact absurd h (by simp)
 rw [decide_eq_false h3,cond_false,Option.bind_some] at h;by_cases h4:(c.af.length:Int) > 64
 ·rw [decide_eq_true h4] at h;exact absurd h (by simp)
 exact ⟨by omega,by omega,by omega,by omega⟩
theorem AU (l:List Int) (n:Int) (hl:l.length < 2 ^ 62):mH l n=some (l.any fun v=>decide (v < 0)||decide (v≥n)):=by
 unfold mH uJ;rw [bn (s0:=(0:Int)) (fun k:Nat=>(k:Int)) (fun k=>(l[k]?).bind fun v=>if decide (v < 0)||decide (v≥n) then some (k:Int) else none) l.length (show l.length < 2 ^ 64 by omega) () rfl (fun k hk _=>by
  rw [bO (show ((k:Nat):Int) < (l.length:Int) by omega),cond_true,aK hk,List.getElem?_eq_getElem hk,ay (by omega)];unfold P7;dsimp only [Option.bind]
  cases decide (l[k] < 0)<;>cases decide (l[k]≥n)<;>rfl) (fun _=>by rw [bF (by omega),cond_false])]
 cases hf:first l.length (fun k=>(l[k]?).bind fun v=>if decide (v < 0)||decide (v≥n) then some (k:Int) else none) with
 | none=>
  have:(l.any fun v=>decide (v < 0)||decide (v≥n))=false:=List.any_eq_false.2 fun x hx hn=>by
   obtain ⟨i,hi,rfl⟩:=List.getElem_of_mem hx;have:=bR.1 hf i hi;rw [List.getElem?_eq_getElem hi] at this;dsimp only [Option.bind] at this;rw [if_pos hn] at this;cases this
  rw [this];rfl
 | some r=>
  obtain ⟨k,hk,hr⟩:=List.exists_of_findSome?_eq_some hf;have hk:=List.mem_range.1 hk;rw [List.getElem?_eq_getElem hk] at hr;dsimp only [Option.bind] at hr;split at hr
  ·rename_i hn;injection hr with hr;subst hr
   rw [List.any_eq_true.2 ⟨l[k],List.getElem_mem hk,hn⟩];show some (decide ((k:Int)≥0))=_;rw [decide_eq_true (by omega)]
  ·cases hr
theorem AW {ρ:Type} (p:Int->Bool) (r:ρ):∀ l:List Int,l.findSome? (fun v=>if p v then some r else none)=if l.any p then some r else none
 | []=>rfl
 | x::l=>by
  rw [List.findSome?_cons,AW p r l,List.any_cons]
  cases p x<;>rfl
theorem xB (l:List Int) (n:Int) (hl:l.length < 2 ^ 62):iter (fun s2:Int=>((bif (decide (s2 < (l.length:Int))) then ((idx l s2).bind fun v5=>(bif (decide (v5 < 0)) then some true else (idx l s2).bind fun v6=>some (decide (v6≥n))):Option (Bool)).bind fun w4=>(bif w4 then some (.inr (.inr 1)) else some (.inl (aO .i64 s2 1))) else some (.inr (.inl ()))):Option ((Int)⊕((Unit)⊕Int)))) 0=some (if (l.any fun v=>decide (v < 0)||decide (v≥n)) then .inr 1 else .inl ()):=by
 rw [dJ (s0:=(0:Int)) l (fun v=>if decide (v < 0)||decide (v≥n) then some (1:Int) else none) (show l.length < 2 ^ 64 by omega) () rfl (fun k hk=>by
  rw [bO (show ((k:Nat):Int) < (l.length:Int) by omega),cond_true,aK hk,ay (by omega)];dsimp only [Option.bind]
  cases decide (l[k] < 0)<;>cases decide (l[k]≥n)<;>rfl) (by rw [bF (by omega),cond_false]),AW]
 cases (l.any fun v=>decide (v < 0)||decide (v≥n))<;>rfl
structure Fit (c:aA) (x:cn):Prop where
 e:(x.Ends.length:Int)=c.U
 v:(x.j3.length:Int)=c.U
 i:x.aE.length=c.aE.length
 s:x.cz.length=c.af.length
 t:x.br.length=c.af.length
theorem MD {c:aA} (h:dQ c) (x:cn):∃ e,Wz c x=some e/\LM c x=some e/\(e=0->Fit c x):=by
 unfold Wz LM;have:=h.a1;have:=h.a6;have:=h.i;have:=h.s;by_cases h1:(x.Ends.length:Int)=c.U
 case neg=>
  rw [show ((x.Ends.length:Int) !=c.U)=true from bne_iff_ne.2 h1];exact ⟨8,rfl,rfl,fun h=>by cases h⟩
 rw [show ((x.Ends.length:Int) !=c.U)=false from by rw [h1];exact bne_self_eq_false _,cond_false];by_cases h2:(x.j3.length:Int)=c.U
 case neg=>
  rw [show ((x.j3.length:Int) !=c.U)=true from bne_iff_ne.2 h2];exact ⟨8,rfl,rfl,fun h=>by cases h⟩
 rw [show ((x.j3.length:Int) !=c.U)=false from by rw [h2];exact bne_self_eq_false _,cond_false];by_cases h3:(x.aE.length:Int)=(c.aE.length:Int)
 case neg=>
  rw [show ((x.aE.length:Int) !=(c.aE.length:Int))=true from bne_iff_ne.2 h3];exact ⟨8,rfl,rfl,fun h=>by cases h⟩
 rw [show ((x.aE.length:Int) !=(c.aE.length:Int))=false from by rw [h3];exact bne_self_eq_false _,cond_false];by_cases h4:(x.cz.length:Int)=(c.af.length:Int)
 case neg=>
  rw [show ((x.cz.length:Int) !=(c.af.length:Int))=true from bne_iff_ne.2 h4];exact ⟨8,rfl,rfl,fun h=>by cases h⟩
 rw [show ((x.cz.length:Int) !=(c.af.length:Int))=false from by rw [h4];exact bne_self_eq_false _,cond_false];by_cases h5:(x.br.length:Int)=(c.af.length:Int)
 case neg=>
  rw [show ((x.br.length:Int) !=(c.af.length:Int))=true from bne_iff_ne.2 h5];exact ⟨8,rfl,rfl,fun h=>by cases h⟩
 rw [show ((x.br.length:Int) !=(c.af.length:Int))=false from by rw [h5];exact bne_self_eq_false _,Option.bind_some,Option.bind_some,cond_false,cond_false];rw [AU _ _ (by omega),AU _ _ (by omega),xB _ _ (by omega),xB _ _ (by omega)];have F:Fit c x:=⟨h1,h2,by omega,by omega,by omega⟩
 cases x.Ends.any fun v=>decide (v < 0)||decide (v≥4)
 case true=>exact ⟨1,rfl,rfl,fun h=>by cases h⟩
 cases x.br.any fun v=>decide (v < 0)||decide (v≥3)
 case true=>exact ⟨1,rfl,rfl,fun h=>by cases h⟩
 rw [Option.bind_some,cond_false,Option.bind_some,Option.bind_some,cond_false,if_neg (by simp)];rw [Option.bind_some,Sum.elim_inl,Option.bind_some,Sum.elim_inl];let g:Nat->Option Int:=fun j=>(c.af[j]?).bind fun s=>(x.br[j]?).bind fun t=>(x.cz[j]?).bind fun v=>if (bif s.Kind==2 then ((v==(t==2)) !=true) else t !=0) then some 14 else none
 have hg:∀ (j:Nat) (h1:j < c.af.length) (h2:j < x.br.length) (h3:j < x.cz.length),g j=if (bif c.af[j].Kind==2 then ((x.cz[j]==(x.br[j]==2)) !=true) else x.br[j] !=0) then some 14 else none:=fun j h1 h2 h3=>by
  show (c.af[j]?).bind _=_;rw [List.getElem?_eq_getElem h1];show (x.br[j]?).bind _=_;rw [List.getElem?_eq_getElem h2];show (x.cz[j]?).bind _=_;rw [List.getElem?_eq_getElem h3];rfl
 rw [bn (s0:=(0:Int)) (fun k:Nat=>(k:Int)) g x.br.length (show x.br.length < 2 ^ 64 by omega) () rfl (fun k hk _=>by
  rw [bO (show ((k:Nat):Int) < (x.br.length:Int) by omega),cond_true,aK hk,aK (show k < c.af.length by omega),aK (show k < x.cz.length by omega),ay (by omega),hg k (by omega) hk (by omega)];dsimp only [Option.bind]
  cases c.af[k].Kind==2
  ·cases x.br[k] !=0<;>rfl
  ·cases (x.cz[k]==(x.br[k]==2)) !=true<;>rfl) (fun _=>by rw [bF (by omega),cond_false])]
 rw [bn (s0:=(0:Int)) (fun k:Nat=>(k:Int)) g x.br.length (show x.br.length < 2 ^ 64 by omega) () rfl (fun k hk _=>by
  rw [bO (show ((k:Nat):Int) < (x.br.length:Int) by omega),cond_true,aK hk,aK (show k < c.af.length by omega),aK (show k < x.cz.length by omega),ay (by omega),hg k (by omega) hk (by omega)];dsimp only [Option.bind]
  cases c.af[k].Kind==2
  ·cases x.br[k] !=0<;>rfl
  ·cases (x.cz[k]==(x.br[k]==2)) !=true<;>rfl) (fun _=>by rw [bF (by omega),cond_false])]
 cases first x.br.length g with
 | none=>exact ⟨0,rfl,rfl,fun _=>F⟩
 | some r=>exact ⟨r,rfl,rfl,fun _=>F⟩
theorem Jq (c:aA) (ht:ua c) (x:cn):∃ e,WA c x=some e/\WB c x=some e/\(e=0->dQ c/\Fit c x):=by
 obtain ⟨e,h1,h2⟩:=Jr c ht;unfold WA WB;rw [h1,h2,Option.bind_some,Option.bind_some];by_cases he:e=0
 ·subst he;have h:=B1 h2;obtain ⟨v,h3,h4,h5⟩:=MD h x;rw [h3,h4];exact ⟨v,rfl,rfl,fun h0=>⟨h,h5 h0⟩⟩
 ·rw [show (e !=0)=true from bne_iff_ne.2 he];exact ⟨e,rfl,rfl,fun h0=>(he h0).elim⟩
def vals (x:cn):List Bool:=(x.Ends.flatMap fun v=>[v==0,v==2])++x.aE++x.cz
theorem uK (l:List Int):(l.flatMap fun v=>[v==0,v==2]).length=2*l.length:=by
 induction l with
 | nil=>rfl
 | cons a l ih=>rw [List.flatMap_cons,List.length_append,ih,List.length_cons];simp;omega
theorem F0 {α β:Type} (f:α->List β) (l:List α) (k:Nat) (h:k < l.length):(l.take (k+1)).flatMap f=(l.take k).flatMap f++f l[k]:=by
 rw [List.take_add_one,List.getElem?_eq_getElem h,List.flatMap_append];simp
theorem Rc {c:aA} (h:dQ c) {x:cn} (F:Fit c x):WE c x=some (vals x):=by
 have:=h.a1;have:=h.a6;have:=h.i;have:=h.s;have:=F.e;have:=F.i;have:=F.s;unfold WE;rw [bh (s0:=((0:Int),([]:List Bool))) (fun k:Nat=>((k:Int),(x.Ends.take k).flatMap fun v=>[v==0,v==2])) x.Ends.length (show x.Ends.length < 2 ^ 64 by omega) (x.Ends.flatMap fun v=>[v==0,v==2]) (by simp) (fun k hk=>by
  dsimp only;have e:=uK (x.Ends.take k);rw [List.length_take] at e;rw [bO (by omega),cond_true,aK hk];dsimp only [Option.bind];rw [aU (by rw [e];simp;omega) (by rw [e];simp;omega),ay (by omega),F0 _ _ _ hk]) (by
  dsimp only;rw [bF (by omega),cond_false,List.take_length])]
 have e:=uK x.Ends;rw [Option.bind_some,aU (by omega) (by omega),Option.bind_some,aU (by rw [List.length_append];omega) (by rw [List.length_append];omega)];rfl
theorem Js {c:aA} (h:dQ c) {x:cn} (F:Fit c x) (j:Nat) (hj:j < c.af.length):idx (vals x) (fl c+(j:Int))=idx x.cz (j:Int):=by
 have:=h.a1;have:=h.a6;have:=h.i;have:=h.s;have:=F.e;have:=F.i;have:=F.s;have e:=uK x.Ends;have hn:fl c+(j:Int)=((2*x.Ends.length+x.aE.length+j:Nat):Int):=by unfold fl;omega
 rw [hn,zl,zl];unfold vals;rw [List.getElem?_append_right (by rw [List.length_append];omega),List.length_append];congr 1;omega
end cQ
end
section
namespace cQ
open Go Go.Pl
set_option linter.unusedVariables false
set_option linter.unusedSimpArgs false
theorem K3 (s:ai):∃ b,WG s=some b/\(b=true->Small s):=by
 unfold WG;by_cases hs:s.Steps.length<=128
 ·rw [aJ (by simp only [decide_eq_false_iff_not];omega)];rw [dJ s.Steps (fun x=>bif decide ((x.aa.length:Int) > 40) then some false else none) ?hn () ?h0 ?h ?he]
  case hn=>unfold fuel;omega
  case h0=>rfl
  case he=>
   try dsimp only
   rw [aJ (bF (by omega))]
  case h=>
   intro k hk;try dsimp only
   rw [aM (bO (by omega)),aK hk];simp only [Option.bind_some];rw [ay (by omega)]
   cases decide ((s.Steps[k].aa.length:Int) > 40)<;>rfl
  cases hf:s.Steps.findSome? (fun x=>bif decide ((x.aa.length:Int) > 40) then some false else none) with
  | none=>
   refine ⟨true,rfl,fun _=>⟨by omega,fun x hx=>?_⟩⟩;rw [List.findSome?_eq_none_iff] at hf;have:=hf x hx
   cases hd:decide ((x.aa.length:Int) > 40) with
   | true=>rw [hd] at this;cases this
   | false=>rw [decide_eq_false_iff_not] at hd;omega
  | some r=>
   refine ⟨r,rfl,fun hr=>?_⟩;obtain ⟨x,hx,GR⟩:=List.exists_of_findSome?_eq_some hf
   cases hd:decide ((x.aa.length:Int) > 40) with
   | true=>rw [hd] at GR;injection GR with GR;rw [hr] at GR;cases GR
   | false=>rw [hd] at GR;cases GR
 ·exact ⟨false,by rw [aM (by simp only [decide_eq_true_eq];omega)],nofun⟩
theorem K4 (s:ai):∃ b,WJ s=some b/\(b=true->Small s):=by
 obtain ⟨b,h1,h2⟩:=K3 s;unfold WJ;rw [h1,Option.bind_some]
 cases b with
 | false=>exact ⟨false,rfl,nofun⟩
 | true=>
  rw [cond_true,IW s (h2 rfl)]
  cases decide ((s.Steps.length:Int)<=10)
  ·exact ⟨_,rfl,fun _=>h2 rfl⟩
  ·cases decide (s.U<=4)<;>exact ⟨_,rfl,fun _=>h2 rfl⟩
theorem K5 (x:cn):∃ b,WK x=some b:=by
 unfold WK
 cases decide ((x.Ends.length:Int)<=40)<;>cases decide ((x.j3.length:Int)<=40)<;>cases decide ((x.aE.length:Int)<=200)<;>cases decide ((x.cz.length:Int)<=200)<;>exact ⟨_,rfl⟩
theorem K6:((List.range 100).all fun k=>decide ((nameOf [109] k).length<=9)&&decide ((nameOf [119] k).length<=9))=true:=by kernel_rfl
theorem I7 {k:Nat} (hk:k < 100):(nameOf [109] k).length<=9/\(nameOf [119] k).length<=9:=by
 have h:=List.all_eq_true.1 K6 k (List.mem_range.2 hk);simpa using h
theorem Gv {s:ai} (h:Good s):ua (LC s):=by
 have hn:=h.n64;constructor
 ·intro k hk;show ([[115,116,97,114,116]]:List (List UInt8))[k].length < _;have:k=0:=by have:k < 1:=hk;omega
  subst this;show (5:Nat) < 2 ^ 63;decide
 ·suffices ∀ x∈(LC s).af,x.Name.length < 2 ^ 63 from fun k hk=>this _ (List.getElem_mem hk)
  intro x hx;rcases List.mem_append.1 (show x∈base s++jz s (iO s) s.U.toNat from hx) with hx | hx
  ·rcases List.mem_append.1 (show x∈chain s++jY s (iO s) s.Steps.length from hx) with hx | hx
   ·unfold chain at hx;split at hx
    ·simp only [List.mem_cons,List.not_mem_nil,or_false] at hx;rcases hx with rfl | rfl<;>(show (2:Nat) < 2 ^ 63;decide)
    ·obtain ⟨k,hk,rfl⟩:=List.mem_map.1 (show x∈(List.range s.Steps.length).map (oH s) from hx);have:=(I7 (k:=k) (by have:=List.mem_range.1 hk;omega)).1;show (nameOf [109] k).length < _;omega
   ·obtain ⟨k,hk,hx⟩:=List.mem_flatMap.1 (show x∈(List.range s.Steps.length).flatMap (mq s (iO s)) from hx);unfold mq at hx;split at hx
    ·split at hx
     ·cases hx
     ·simp only [List.mem_cons,List.not_mem_nil,or_false] at hx;subst hx;have:=(I7 (k:=k) (by have:=List.mem_range.1 hk;omega)).2;show (nameOf [119] k).length < _;omega
    ·cases hx
  ·obtain ⟨a,ha,hx⟩:=List.mem_flatMap.1 (show x∈(List.range s.U.toNat).flatMap (fun a=>[fX s (iO s) a true,fX s (iO s) a false]) from hx);simp only [List.mem_cons,List.not_mem_nil,or_false] at hx;rcases hx with rfl | rfl
   ·show (Ax a true).length < _;unfold Ax;simp
   ·show (Ax a false).length < _;unfold Ax;simp
theorem N3 {s:ai} (k:Nat) (hk:k < s.Steps.length):∃ i:Nat,i < s.Steps.length/\idx (iO s) (k:Int)=some (fst s+(i:Int)):=by
 unfold iO;split
 ·rename_i h2;have:k=0\/k=1:=by omega
  rcases this with rfl | rfl
  ·exact ⟨1,by omega,rfl⟩
  ·exact ⟨0,by omega,by rw [show fst s+((0:Nat):Int)=fst s by omega];rfl⟩
 ·refine ⟨k,hk,?_⟩;rw [aK (show k < (mods (fst s) s.Steps.length).length by simp [mods];exact hk)];simp [mods]
def OD (s:ai) (x:cn) (k:Nat):Bool:=match idx (iO s) (k:Int) with
 | some m=>(idx x.cz (m - fst s)).getD false
 | none=>false
def Lu (s:ai) (x:cn) (k:Nat):List Int:=((List.range k).filter (OD s x)).map fun j:Nat=>(j:Int)
theorem BL (s:ai) (x:cn) (k:Nat):Lu s x (k+1)=Lu s x k++if OD s x k then [(k:Int)] else []:=by
 unfold Lu;rw [List.range_succ,List.filter_append,List.map_append];congr 1
 cases h:OD s x k<;>simp [h]
theorem zP (s:ai) (x:cn) (k:Nat):(Lu s x k).length<=k:=by
 unfold Lu;rw [List.length_map];have:=List.length_filter_le (OD s x) (List.range k)
 rwa [List.length_range] at this
theorem SC (s:ai):fl (LC s)=fst s:=rfl
theorem K7 (s:ai) (hs:Small s) (x:cn):∃ (l:List Int) (e:Int),Tp s x=some (l,e)/\Tr s x=some e/\l.length<=64/\(e≠0->l=[])/\(e=0->Ts s x=some l):=by
 unfold Tp Tr;rw [SD,SE s hs];by_cases he:err s=0
 case neg=>
  rw [if_pos he,Option.bind_some,Option.bind_some,show (err s !=0)=true from bne_iff_ne.2 he];exact ⟨[],err s,rfl,rfl,Nat.zero_le _,fun _=>rfl,fun h=>(he h).elim⟩
 rw [if_neg (by simp [he]),he,Option.bind_some];have hc:yG s=0:=by
  unfold err at he;split at he
  ·rename_i h;exact (h he).elim
  ·rename_i h;simpa using h
 have h:=vn hc;have hn:=h.n64;have hf:=mE h.a1 h.a6;rw [show ((0:Int) !=0)=false from rfl,cond_false];simp only [Option.bind_some,bne_self_eq_false,cond_false];rw [I8 h,Option.bind_some];obtain ⟨e,h1,h2,h3⟩:=Jq (LC s) (Gv h) x;rw [h1,h2,Option.bind_some,Option.bind_some];by_cases FH:e=0
 case neg=>
  rw [show (e !=0)=true from bne_iff_ne.2 FH];exact ⟨[],e,rfl,rfl,Nat.zero_le _,fun _=>rfl,fun h=>(FH h).elim⟩
 subst FH;obtain ⟨S,F⟩:=h3 rfl;have iM:=Fs h;have vS:∀ k,k < s.Steps.length->∃ i:Nat,idx (iO s) (k:Int)=some (fst s+(i:Int))/\i < s.Steps.length/\idx x.cz (i:Int)=some (OD s x k):=fun k hk=>by
  obtain ⟨i,hi,hp⟩:=N3 (s:=s) k hk;refine ⟨i,hp,hi,?_⟩;have:=F.s;unfold OD;rw [hp];dsimp only;rw [show fst s+(i:Int) - fst s=(i:Int) by omega,aK (show i < x.cz.length by omega)];rfl
 rw [show ((0:Int) !=0)=false from rfl,cond_false];refine ⟨Lu s x s.Steps.length,0,?_,rfl,Nat.le_trans (zP s x _) hn,fun h=>(h rfl).elim,fun _=>?_⟩
 ·rw [bh (s0:=((0:Int),([]:List Int))) (fun k:Nat=>((k:Int),Lu s x k)) s.Steps.length (show s.Steps.length < 2 ^ 64 by omega) (Lu s x s.Steps.length) rfl (fun k hk=>by
   obtain ⟨i,i1,i2,i3⟩:=vS k hk;have hl:=zP s x k;dsimp only;rw [bO (show ((k:Nat):Int) < ((iO s).length:Int) by rw [gQ];omega),cond_true,i1];simp only [Option.bind_some];rw [ef (by omega) (by omega),show fst s+(i:Int) - fst s=(i:Int) by omega,i3,Option.bind_some,BL,ay (by omega)]
   cases OD s x k
   ·simp
   ·rw [cond_true,aU (by simp;omega) (by simp;omega)];rfl) (by
   dsimp only;rw [bF (show ¬ ((s.Steps.length:Nat):Int) < ((iO s).length:Int) by rw [gQ];omega),cond_false])]
  rfl
 ·unfold Ts;rw [I8 h,Option.bind_some,Rc S F,Option.bind_some,vp h,Option.bind_some];rw [bh (s0:=((0:Int),([]:List Int))) (fun k:Nat=>((k:Int),Lu s x k)) s.Steps.length (show s.Steps.length < 2 ^ 64 by omega) (Lu s x s.Steps.length) rfl (fun k hk=>by
   obtain ⟨i,i1,i2,i3⟩:=vS k hk;have hl:=zP s x k;dsimp only;rw [bO (show ((k:Nat):Int) < ((iO s).length:Int) by rw [gQ];omega),cond_true,i1];simp only [Option.bind_some];have hv:=Js S F i (by omega);rw [SC] at hv;rw [hv,i3,Option.bind_some,BL,ay (by omega)]
   cases OD s x k
   ·simp
   ·rw [cond_true,aU (by simp;omega) (by simp;omega)];rfl) (by
   dsimp only;rw [bF (show ¬ ((s.Steps.length:Nat):Int) < ((iO s).length:Int) by rw [gQ];omega),cond_false])]
  rfl
theorem vq (l:List Int) (h:l.length < 2 ^ 62):WY l l=some true:=by
 unfold WY;rw [show ((l.length:Int) !=(l.length:Int))=false from bne_self_eq_false _,cond_false,K0 l.length (show l.length < 2 ^ 64 by omega)]
 ·rfl
 ·intro k hk;rw [bO (show ((k:Nat):Int) < (l.length:Int) by omega),cond_true,aK hk];dsimp only [Option.bind];rw [show (l[k] !=l[k])=false from bne_self_eq_false _,cond_false,ay (by omega)]
 ·rw [bF (by omega),cond_false]
theorem R2 (s:ai) (x:cn):m4 s x=some true:=by
 obtain ⟨b,hb,hS⟩:=K4 s;obtain ⟨c,hx⟩:=K5 x;unfold m4;rw [hb,hx,Option.bind_some]
 cases b with
 | false=>rfl
 | true=>
  cases c with
  | false=>rfl
  | true=>
   show (WQ s x).bind _=_;obtain ⟨l,e,h1,h2,h5,h3,h4⟩:=K7 s (hS rfl) x;unfold WQ XF XH;rw [h1,h2];simp only [Option.bind_some];by_cases he:e=0
   ·subst he;rw [h4 rfl,show ((0:Int) !=0)=false from rfl];simp only [cond_false,Option.bind_some];have hl:l.length < 2 ^ 62:=by omega
    by_cases h1:(l.length:Int)=1
    ·rw [show ((l.length:Int) !=1)=false from by rw [h1];rfl,cond_false,show idx l 0=some (l[0]'(by omega)) from aK (k:=0) (by omega)];simp only [Option.bind_some];rw [vq l hl];simp;rfl
    ·rw [show ((l.length:Int) !=1)=true from bne_iff_ne.2 h1,cond_true];simp only [Option.bind_some];rw [vq l hl];simp;rfl
   ·rw [h3 he,show (e !=0)=true from bne_iff_ne.2 he];simp only [cond_true,Option.bind_some];rw [vq [] (by simp)];simp;rfl
end cQ
end
