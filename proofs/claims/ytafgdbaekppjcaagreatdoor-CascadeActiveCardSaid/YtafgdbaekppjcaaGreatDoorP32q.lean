/- Plain laws of chapter 32's models: the reference's control. No condition. -/
import Derived.Test.YtafgdbaekppjcaaGreatDoorP32b
set_option linter.unusedSectionVars false
set_option linter.unusedVariables false
set_option linter.unusedSimpArgs false
namespace cK
open Go Go.Pl
theorem cU.J1 {s:aa} (h:cU s):Good s:=⟨h.a1,h.a6,h.n0,h.n64,fun i hi=>(h.step i hi).ok⟩
theorem rU {s:aa} (h:cU s) (n:Int) (k:Nat):(dA s n k).length<=6:=by
 by_cases hk:k < s.Steps.length
 ·exact M0 h.J1 hk
 ·unfold dA;rw [zan (by omega)];exact zaJ _
theorem rW {s:aa} (h:cU s) {k:Nat} (hk:k < s.Steps.length):yO (SG s) k=some (dA s (tc s) k):=QL s _ (GB h) hk (h.step k hk).ok
def Gv (s:aa) (j:Nat):aK:=
 ⟨nameOf [103] j,1,sev 3 (cw (fst s+((j+bk s - 1) % bk s:Nat))::dA s (tc s) (aL s ((j+bk s - 1) % bk s))),
  cw (fst s+((j+1) % bk s:Nat)),0,(j:Int)==0⟩
def eK (s:aa) (k:Nat):List aK:=(List.range k).map (Gv s)
theorem ur {s:aa} {k:Nat}:eK s (k+1)=eK s k++[Gv s k]:=by
 unfold eK;rw [zb7,zal];rfl
def two (s:aa):List aK:=
 [⟨[103,49],1,sev 3 (dA s (tc s) (aL s 0)),sev 3 (dA s (tc s) (aL s 1)),0,false⟩,⟨[103,48],0,⟨2,0,[cw (fst s)]⟩,Wf,0,false⟩]
def uI (s:aa):List aK:=if bk s=2 then two s else eK s (bk s)
theorem vv {s:aa}:(uI s).length=bk s:=by
 unfold uI;split
 ·rename_i h;rw [h];rfl
 ·simp [eK]
theorem QM {s:aa} (h:cU s):OF (SG s)=some (uI s):=by
 have hn0:=h.n0;have hn:=h.n64;obtain ⟨f1,f2,f3,f4⟩:=cz h;unfold OF;show ((Jj s).bind _)=_;rw [p5 h];show ((NQ s).bind _)=_;rw [A2 h];simp only [za,jw,xA,aj.dP];rw [eJ];by_cases h2:bk s=2
 ·rw [ay (by simp [h2])];show ((AJ s _ _).bind _)=_;rw [show (0:Int)=((0:Nat):Int) from rfl,Bx h (j:=0) (by omega)];show ((yO _ _).bind _)=_;rw [rW h (A9 h 0)];show ((AJ s _ _).bind _)=_;rw [show (1:Int)=((1:Nat):Int) from rfl,Bx h (j:=1) (by omega)];show ((yO _ _).bind _)=_;rw [rW h (A9 h 1)];simp only [za,aj.dP];have ei:idx (gl s) ((1:Nat):Int)=some (fst s):=by unfold gl;rw [if_pos h2];rfl
  rw [ei];simp only [za,aj.dP];unfold uI;rw [if_pos h2];rfl
 ·rw [au (by simp;omega)];have hp:gl s=mods (fst s) (bk s):=by unfold gl;rw [if_neg h2]
  rw [aN (fun k:Nat=>((k:Int),eK s k)) (bk s) ?hn (eK s (bk s)) ?h0 ?h ?he]
  case hn=>unfold fuel;omega
  case h0=>simp [eK]
  case he=>
   try dsimp only
   rw [au (bn (by omega))]
  case h=>
   intro k hk;try dsimp only
   have hpv:(k+bk s - 1) % bk s < bk s:=zc1 _ f1;have hnx:(k+1) % bk s < bk s:=zc1 _ f1;have mi:∀ j,j < bk s->idx (gl s) (j:Int)=some (fst s+(j:Int)):=by
    intro j hj;rw [hp,aF (show j < (mods (fst s) (bk s)).length by simp [mods];exact hj)];simp [mods]
   rw [ay (bq (by omega)),Hq hk (by omega),Hr hk (by omega)];simp only [za];rw [mi _ hpv];simp only [za];show ((AJ s _ _).bind _)=_;rw [Bx h hpv];simp only [za];rw [rW h (A9 h _)];have hl:=rU h (tc s) (aL s ((k+bk s - 1) % bk s));simp only [za,aj.dP];rw [aO (by simp;omega) (by simp;omega)];simp only [za,aj.dP];obtain ⟨t,ht,ht2⟩:=A0 (p:=[103]) (.inl rfl) (show k < 100 by omega);have hnm:nameOf [103] k=t:=by unfold nameOf;rw [ht];rfl
   have hml:(eK s k).length=k:=by simp [eK]
   rw [ur,ht,mi _ hnx];simp only [za,aj.dP];rw [aO (by simp [hml];omega) (by simp [hml];omega)];simp only [za];rw [an (by omega)];unfold Gv;rw [hnm];rfl
  unfold uI;rw [if_neg h2];rfl
def more (s:aa) (k:Nat):List aj:=if k=0 then [cw (2*s.U)] else if (div s).getD (vH s k) 0 < k then dA s (tc s) (k - 1) else []
theorem M3 {s:aa} (h:cU s) (k:Nat):(more s k).length<=6:=by
 unfold more;split
 ·simp
 ·split
  ·exact rU h _ _
  ·simp
def Jz (s:aa) (k:Nat):Int:=(gl s).getD (vH s k) 0
def beg (s:aa) (k:Nat):aj:=sev 3 (cw (Jz s k)::more s k)
theorem Lx {o:List Nat} {k:Nat} (h0:o.getD 0 0=0):∀ {m:Nat},0 < m->o.getD (top o k m) 0<=k
 | 0,h=>by omega
 | m+1,_=>by
  rw [top];split
  ·assumption
  ·rename_i hc;have:0 < m:=by
    refine Nat.pos_of_ne_zero fun hm=>?_
    subst hm;omega
   exact Lx h0 this
theorem Bb {s:aa} (h:cU s) (k:Nat):(div s).getD (vH s k) 0<=k:=Lx (cz h).2.2.1 (cz h).1
theorem QN {s:aa} (h:cU s) {k:Nat} (hk:k < s.Steps.length):OH (SG s) k=some (beg s k):=by
 have hn:=h.n64;have Rp:=h.a1;have ha6:=h.a6;have hg:=sR h k;have hle:=Bb h k;unfold OH;show ((Jj s).bind _)=_;rw [p5 h];show ((NQ s).bind _)=_;rw [A2 h];simp only [za,jw,xA,aj.dP];rw [Hz h k];simp only [za];rw [Ba hg];simp only [za];show (bif _ then some (sev 3 [_,cw (cE .i64 2 s.U)]) else _)=_;rw [OV h.J1];unfold beg more;by_cases h0:k=0
 ·rw [ay (by simp [h0]),if_pos h0];rfl
 ·rw [au (by simp;omega),if_neg h0,iC hg];simp only [za];by_cases hc:(div s).getD (vH s k) 0 < k
  ·rw [au (by rw [beq_eq_false_iff_ne];omega),if_pos hc,eL (by omega) (by omega),rW h (show k - 1 < _ by omega)];simp only [za];have hl:=rU h (tc s) (k - 1);rw [aO (by simp;omega) (by simp;omega)];rfl
  ·rw [ay (by rw [beq_iff_eq];omega),if_neg hc];rfl
def tn (s:aa):Nat:=cnt s s.Steps.length
def dZ (s:aa) (k:Nat):List Int:=(List.range k).map fun j:Nat=>fst s+(bk s:Int)+(tn s:Int)+(j:Int)
theorem vA {s:aa} {k:Nat}:(dZ s k).length=k:=by simp [dZ]
theorem Dm {s:aa} {k:Nat}:dZ s (k+1)=dZ s k++[fst s+(bk s:Int)+(tn s:Int)+(k:Int)]:=by
 unfold dZ;rw [zb7,zal];rfl
theorem HB {s:aa} (h:cU s):V2 (SG s)=some (tn s:Int):=U1 s _ (GB h) h.n64
theorem Vf {s:aa} (h:cU s):m72 s=some (dZ s s.Steps.length):=by
 have hf:=pV h.a1 h.a6;have hn:=h.n64;have hc:=wH s s.Steps.length;have htn:tn s<=64:=by unfold tn;omega
 obtain ⟨f1,f2,f3,f4⟩:=cz h;unfold m72;rw [Fm h];simp only [za];rw [aN (fun k:Nat=>((k:Int),dZ s k)) s.Steps.length ?hn (dZ s s.Steps.length) ?h0 ?h ?he]
 case hn=>unfold fuel;omega
 case h0=>rfl
 case he=>
  try dsimp only
  rw [au (bn (by omega))]
 case h=>
  intro k hk;try dsimp only
  have hl:=vA (s:=s) (k:=k);rw [ay (bq (by omega)),By h,p5 h,HB h];simp only [za];rw [eJ,bh (show -9223372036854775808<=fst s+(bk s:Int) by omega) (by omega),bh (show -9223372036854775808<=fst s+(bk s:Int)+(tn s:Int) by omega) (by omega),bh (by omega) (by omega)];rw [aO (by simp [hl];omega) (by simp [hl];omega),an (by omega),Dm];rfl
 rfl
def zm (s:aa) (k:Nat):aK:=⟨nameOf [115] k,0,beg s k,Wf,0,false⟩
def dN (s:aa) (k:Nat):List aK:=(List.range k).map (zm s)
theorem uu {s:aa} {k:Nat}:dN s (k+1)=dN s k++[zm s k]:=by
 unfold dN;rw [zb7,zal];rfl
theorem qo {s:aa} {k:Nat}:(dN s k).length=k:=by simp [dN]
def kW (s:aa):List aK:=uI s++jy s (bp s s.Steps.length) s.Steps.length
def qu (s:aa):List aK:=kW s++dN s s.Steps.length
theorem Dy {s:aa} {M:List Int} (hM:M.length=s.Steps.length):∀ k,k<=s.Steps.length->(jy s M k).length=cnt s k
 | 0,_=>by simp [jy,cnt]
 | k+1,hk=>by
  have hk':k < s.Steps.length:=by omega
  rw [oJ,za9,Dy hM k (by omega),jQ hk'];unfold nE;rw [za2 hk',za2 (show k < M.length by omega)];dsimp only;split<;>simp
theorem xC {s:aa}:(kW s).length=bk s+tn s:=by
 unfold kW;rw [za9,vv,Dy vz _ (za6 _)];rfl
theorem vn {s:aa}:(qu s).length=bk s+tn s+s.Steps.length:=by
 unfold qu;rw [za9,xC,qo]
def pm (s:aa) (d:Int) (k:Nat):List Int:=(List.range k).map fun j:Nat=>fst s+((qu s).length:Int)+2*(j:Int)+d
theorem vB {s:aa} {d:Int} {k:Nat}:pm s d (k+1)=pm s d k++[fst s+((qu s).length:Int)+2*(k:Int)+d]:=by
 unfold pm;rw [zb7,zal];rfl
theorem Bc {s:aa} {d:Int} {k:Nat}:(pm s d k).length=k:=by simp [pm]
def stt:List (List UInt8):=[[115,116,97,114,116]]
def B3 (s:aa):ax:=⟨s.U,stt,qu s++g8 s (dZ s s.Steps.length) s.U.toNat,pm s 0 s.U.toNat,pm s 1 s.U.toNat⟩
theorem Vg {s:aa} (h:cU s):Od (uI s)=some ():=by
 have:=(cz h).1;have e:=vv (s:=s)
 cases hq:uI s with
 | nil=>rw [hq] at e;simp at e;omega
 | cons a l=>rfl
theorem KB {s:aa}:tn s<=s.Steps.length:=wH s _
theorem UN {s:aa} (h:cU s):V3 s=some (B3 s):=by
 have Rp:=h.a1;have ha6:=h.a6;have hn:=h.n64;have hf:=pV h.a1 h.a6;have htn:=KB (s:=s);obtain ⟨f1,f2,f3,f4⟩:=cz h;have Ri:=vv (s:=s);have hkl:=rR s (bp s s.Steps.length) s.Steps.length;have y9:=xC (s:=s);have hb:=vn (s:=s);have dm:=lF s (dZ s s.Steps.length) s.U.toNat;have hst:∀ k (hk:k < s.Steps.length),gG s.Steps[k]:=fun k hk=>(h.step k hk).ok
 unfold V3 me;rw [Fm h];simp only [za];rw [QM h];simp only [za];rw [Vg h,QK h];simp only [za];rw [show WI (SG s) (bp s s.Steps.length)=_ from U7 s _ _ (GB h) hn vz hst];simp only [za];rw [aO (by omega) (by omega)];simp only [za];rw [show uI s++jy s (bp s s.Steps.length) s.Steps.length=kW s from rfl];rw [aN (fun k:Nat=>((k:Int),(0:Int),([]:List (List UInt8)),([]:List aK),([]:List Int),([]:List Int),([[115,116,97,114,116]]:List (List UInt8)),kW s++dN s k,s.U)) s.Steps.length ?hn
  ((0:Int),([]:List (List UInt8)),([]:List aK),([]:List Int),([]:List Int),([[115,116,97,114,116]]:List (List UInt8)),qu s,s.U) ?h0 ?h ?he]
 case hn=>unfold fuel;omega
 case h0=>simp [dN]
 case he=>
  try dsimp only
  rw [au (bn (by omega))];rfl
 case h=>
  intro k hk;try dsimp only
  have vG:=qo (s:=s) (k:=k);obtain ⟨t,ht,ht2⟩:=A0 (p:=[115]) (.inr (.inl rfl)) (show k < 100 by omega);have hnm:nameOf [115] k=t:=by unfold nameOf;rw [ht];rfl
  rw [ay (bq (by omega)),ht,QN h hk];simp only [za,aj.dP];rw [aO (by rw [za9];simp;omega) (by rw [za9];simp;omega)];simp only [za];rw [an (by omega),uu,zaz];unfold zm;rw [hnm];rfl
 simp only [za];rw [Vf h];simp only [za];rw [show WJ (SG s) (dZ s s.Steps.length)=_ from Vh s _ _ Rp ha6 hn vA hst];simp only [za];rw [aO (by rw [dm];omega) (by rw [dm];omega)];simp only [za,OV h.J1];have SA:((qu s++g8 s (dZ s s.Steps.length) s.U.toNat).length:Int)=((qu s).length:Int)+2*s.U:=by rw [za9,dm];omega
 rw [SA];have e1:aI .i64 (2*s.U) (([[115,116,97,114,116]]:List (List UInt8)).length:Int)=fst s:=by
  rw [bh (by simp;omega) (by simp;omega)];rfl
 rw [e1,bh (show -9223372036854775808<=fst s+(((qu s).length:Int)+2*s.U) by omega) (by omega)];have e2:cB .i64 (fst s+(((qu s).length:Int)+2*s.U)) (2*s.U)=fst s+((qu s).length:Int):=by
  rw [fW (by omega) (by omega)];omega
 rw [e2];rw [aN (fun k:Nat=>((k:Int),(0:Int),([]:List (List UInt8)),([]:List aK),([]:List Int),([]:List Int),([[115,116,97,114,116]]:List (List UInt8)),qu s++g8 s (dZ s s.Steps.length) s.U.toNat,s.U,s.U,(0:Int),([]:List (List UInt8)),([]:List aK),([]:List Int),([]:List Int),pm s 0 k,pm s 1 k)) s.U.toNat ?hn
  ((0:Int),([]:List (List UInt8)),([]:List aK),([]:List Int),([]:List Int),([[115,116,97,114,116]]:List (List UInt8)),qu s++g8 s (dZ s s.Steps.length) s.U.toNat,s.U,s.U,(0:Int),([]:List (List UInt8)),([]:List aK),([]:List Int),([]:List Int),pm s 0 s.U.toNat,pm s 1 s.U.toNat) ?h0 ?h ?he]
 case hn=>unfold fuel;omega
 case h0=>simp [pm]
 case he=>
  try dsimp only
  rw [au (bn (by omega))]
 case h=>
  intro k hk;try dsimp only
  have W5:=Bc (s:=s) (d:=0) (k:=k);have W6:=Bc (s:=s) (d:=1) (k:=k);have e3:cE .i64 2 (k:Int)=2*(k:Int):=jf (by omega) (by omega);rw [ay (bq (by omega)),e3,bh (show -9223372036854775808<=fst s+((qu s).length:Int)+2*(k:Int) by omega) (by omega)];rw [bh (show -9223372036854775808<=fst s+((qu s).length:Int)+2*(k:Int)+1 by omega) (by omega)];rw [aO (by simp [W5];omega) (by simp [W5];omega),aO (by simp [W6];omega) (by simp [W6];omega)];simp only [za];rw [vB,vB,an (by omega),Int.add_zero]
 rfl
def err (s:aa):Int:=if uZ s≠0 then uZ s else if 64 < bk s+tn s+s.Steps.length+2*s.U.toNat then 5 else 0
theorem UM (s:aa) (hs:Small s):m61 s=some (err s):=by
 unfold m61 err;rw [Lh s hs];simp only [za];by_cases hc:uZ s=0
 ·have h:=oA hc;have Rp:=h.a1;have ha6:=h.a6;have hn:=h.n64;have htn:=KB (s:=s);obtain ⟨f1,f2,f3,f4⟩:=cz h;rw [hc,au (by rfl),p5 h,Fm h];simp only [za];rw [HB h,if_neg (show ¬ (0:Int)≠0 by decide),eJ];simp only [za,OV h.J1];rw [bh (show -9223372036854775808<=(bk s:Int)+(tn s:Int) by omega) (by omega),bh (show -9223372036854775808<=(bk s:Int)+(tn s:Int)+(s.Steps.length:Int) by omega) (by omega),bh (by omega) (by omega)];by_cases hb:64 < bk s+tn s+s.Steps.length+2*s.U.toNat
  ·rw [if_pos hb,ay (by simp only [decide_eq_true_eq];omega)]
  ·rw [if_neg hb,au (by simp only [decide_eq_false_iff_not];omega)]
 ·rw [if_pos hc,ay (by simpa using hc)]
end cK
