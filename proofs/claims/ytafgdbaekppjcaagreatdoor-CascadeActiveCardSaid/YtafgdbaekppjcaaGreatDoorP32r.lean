/- Parts of my machine and its laws, joined: P32r P34a P34b. No condition. -/
import Derived.Test.YtafgdbaekppjcaaGreatDoorP32q
set_option linter.unusedSectionVars false
set_option linter.unusedVariables false
set_option linter.unusedSimpArgs false
section
namespace cK
open Go Go.Pl
theorem vu (s:aa) (n:Int) {k:Nat} (hk:k < s.Steps.length):dA s n k=if s.Steps[k].dz=0 then s.Steps[k].af.map qw else [cw (pM s n k)]:=by
 unfold dA;rw [za2 hk]
theorem sQ {a:Int} {l:List aj} (h:l.length≠1):sev a l=⟨a,0,l⟩:=by
 unfold sev;split
 ·exact absurd rfl h
 ·rfl
theorem ou {a:Int} {x:aj}:sev a [x]=x:=rfl
theorem Fi {p:List UInt8} (hp:p=[103]\/p=[115]\/p=[119]) {k:Nat} (hk:k < 100):∃ v,EK k=some v/\mX p v=some (nameOf p k):=by
 obtain ⟨t,ht,ht2⟩:=A0 hp hk;obtain ⟨v,hv,SE⟩:=zba.mp ht2;exact ⟨v,hv,by rw [SE];unfold nameOf;rw [ht];rfl⟩
theorem M1 {o:List Nat} {k m:Nat} (h:¬ o.getD m 0<=k):top o k (m+1)=top o k m:=by rw [top,if_neg h]
theorem Va {o:List Nat} {k m:Nat} (h:o.getD m 0<=k):top o k (m+1)=m:=by rw [top,if_pos h]
theorem tJ {o:List Nat} {k:Nat}:∀ {m j:Nat},top o k m < j->j < m->¬ o.getD j 0<=k
 | 0,j,_,h=>by omega
 | m+1,j,h1,h2=>by
  by_cases hc:o.getD m 0<=k
  ·rw [Va hc] at h1;omega
  ·rw [M1 hc] at h1;by_cases hj:j=m
   ·subst hj;exact hc
   ·exact tJ h1 (by omega)
theorem Qr (l:List bQ) (a:Int) (o:Bool) (hl:l.length<=6):Ox l ⟨a,o⟩=some (l.any (hit a o)):=by
 unfold Ox S6;rw [bt (fun k:Nat=>(k:Int)) (fun k=>match l[k]? with | some b=>bif hit a o b then some (k:Int) else none | none=>none) l.length ?hn () ?h0 ?h ?he]
 case hn=>unfold fuel;omega
 case h0=>rfl
 case he=>
  intro _;try dsimp only
  rw [au (bn (by omega))]
 case h=>
  intro k hk _;try dsimp only
  rw [ay (bq (by omega)),aF hk,za2 hk];simp only [za];have eh:((a==l[k].ai&&(o==l[k].Out&&true)) !=false)=hit a o l[k]:=by
   unfold hit;rw [show (a==l[k].ai)=(l[k].ai==a) from Bool.beq_comm ..,show (o==l[k].Out)=(l[k].Out==o) from Bool.beq_comm ..];simp
  rw [eh,an (by omega)]
  cases hit a o l[k]<;>rfl
 rw [<-IV l (hit a o)]
 cases first l.length (fun k=>match l[k]? with | some b=>bif hit a o b then some (k:Int) else none | none=>none)<;>rfl
theorem UK {s:aa} (hc:uZ s=0):Sw s=some (if 64 < bk s+tn s+s.Steps.length+2*s.U.toNat then (none,5) else (some ⟨s,eV s,gl s,dW s (tc s) s.Steps.length,dZ s s.Steps.length,B3 s⟩,0)):=by
 have h:=oA hc;have Rp:=h.a1;have ha6:=h.a6;have hn0:=h.n0;have hn:=h.n64;have hf:=pV h.a1 h.a6;have htc:=GB h;have htn:=KB (s:=s);have hst:∀ k (hk:k < s.Steps.length),gG s.Steps[k]:=fun k hk=>(h.step k hk).ok
 obtain ⟨f1,f2,f3,f4⟩:=cz h;have hlt:=A9 h;have XU:=fst_eq h.a1 h.a6;have J0:=OV h.J1;unfold Sw;rw [E4,hc];refine Eq.trans (b:=((JG s).bind _)) rfl ?_;rw [Pp,if_pos hc];refine (aW (v:=(eV s,(0:Int))) rfl).trans ?_;refine (au (by rfl)).trans ?_;try dsimp only
 refine (aW (v:=(([[115,116,97,114,116]]:List (List UInt8)),s.U,s.Steps,eV s,s.U,mods (fst s) (bk s),([]:List Int),([]:List Int),([]:List aK),([]:List Int),([]:List Int))) ?_).trans ?_
 ·try dsimp only
  rw [aN (fun k:Nat=>((k:Int),([[115,116,97,114,116]]:List (List UInt8)),s.U,s.Steps,eV s,s.U,mods (fst s) k,([]:List Int),([]:List Int),([]:List aK),([]:List Int),([]:List Int))) (bk s) ?hn (([[115,116,97,114,116]]:List (List UInt8)),s.U,s.Steps,eV s,s.U,mods (fst s) (bk s),([]:List Int),([]:List Int),([]:List aK),([]:List Int),([]:List Int)) ?h0 ?h ?he]
  case hn=>unfold fuel;omega
  case h0=>simp [mods]
  case he=>
   try dsimp only
   rw [eJ,au (bn (by omega))]
  case h=>
   intro k hk;try dsimp only
   have W3:(mods (fst s) k).length=k:=by simp [mods]
   rw [eJ,ay (bq (by omega)),XU,aO (by simp [W3];omega) (by simp [W3];omega)];simp only [za];rw [an (by omega),bh (by omega) (by omega),z5]
 try dsimp only
 refine (aW (v:=(([[115,116,97,114,116]]:List (List UInt8)),s.U,s.Steps,eV s,s.U,gl s,([]:List Int),([]:List Int),([]:List aK),([]:List Int),([]:List Int))) ?_).trans ?_
 ·try dsimp only
  rw [eJ];by_cases h2:bk s=2
  ·rw [ay (by simp [h2]),h2];have e1:mods (fst s) 2=[fst s,fst s+1]:=by simp [mods,zb7]
   have e2:gl s=[fst s+1,fst s]:=by unfold gl;rw [if_pos h2]
   rw [e1,e2];refine (aW (v:=(([[115,116,97,114,116]]:List (List UInt8)),s.U,s.Steps,eV s,s.U,[fst s+1,fst s],([]:List Int),([]:List Int),([]:List aK),([]:List Int),([]:List Int))) ?_).trans ?_
   ·rfl
   ·rfl
  ·rw [au (by simp;omega)];have e2:gl s=mods (fst s) (bk s):=by unfold gl;rw [if_neg h2]
   rw [e2]
 try dsimp only
 refine (aW (v:=(([[115,116,97,114,116]]:List (List UInt8)),s.U,s.Steps,eV s,s.U,gl s,dW s (tc s) s.Steps.length,([]:List Int),([]:List aK),([]:List Int),([]:List Int))) ?_).trans ?_
 ·try dsimp only
  rw [eJ,XU,bh (show -9223372036854775808<=fst s+(bk s:Int) by omega) (by omega)];rw [aN (fun k:Nat=>(tc s+(cnt s k:Int),(k:Int),([[115,116,97,114,116]]:List (List UInt8)),s.U,s.Steps,eV s,s.U,gl s,dW s (tc s) k,([]:List Int),([]:List aK),([]:List Int),([]:List Int))) s.Steps.length ?hn (([[115,116,97,114,116]]:List (List UInt8)),s.U,s.Steps,eV s,s.U,gl s,dW s (tc s) s.Steps.length,([]:List Int),([]:List aK),([]:List Int),([]:List Int)) ?h0 ?h ?he]
  case hn=>unfold fuel;omega
  case h0=>simp [cnt,dW,tc]
  case he=>
   try dsimp only
   rw [au (bn (by omega))]
  case h=>
   intro k hk;try dsimp only
   have hc:=wH s k;have htb:tc s<=100:=by unfold tc;omega
   have hlen:(dW s (tc s) k).length=k:=by simp [dW]
   rw [ay (bq (by omega)),aF hk];simp only [za];rw [aO (by simp [hlen];omega) (by simp [hlen];omega),aO (by simp [hlen];omega) (by simp [hlen];omega)];have ht:pM s (tc s) k=if s.Steps[k].dz=0 then -1 else tc s+(cnt s k:Int):=by
    unfold pM;rw [za2 hk]
   by_cases hw:s.Steps[k].dz=0
   ·rw [ay (by simpa using hw)];simp only [za];rw [rT,ht,if_pos hw,jQ hk,if_pos hw,an (by omega)]
   ·rw [au (by simpa using hw)];simp only [za];rw [rT,ht,if_neg hw,jQ hk,if_neg hw,an (by omega),bh (by omega) (by omega)];rw [show tc s+(cnt s k:Int)+1=tc s+((cnt s k+1:Nat):Int) by omega]
 try dsimp only
 refine (aW (v:=(([[115,116,97,114,116]]:List (List UInt8)),s.U,s.Steps,eV s,s.U,gl s,dW s (tc s) s.Steps.length,([]:List Int),uI s,([]:List Int),([]:List Int))) ?_).trans ?_
 ·try dsimp only
  by_cases h2:bk s=2
  ·rw [eJ,h2,ay (by rfl)];refine (aW (v:=((aL s 0:Int),([[115,116,97,114,116]]:List (List UInt8)),s.U,s.Steps,eV s,s.U,gl s,dW s (tc s) s.Steps.length,([]:List Int),([]:List aK),([]:List Int),([]:List Int))) ?_).trans ?_
   ·try dsimp only
    have i1:idx (eV s) 1=some ((div s).getD (0+1) 0:Int):=iC (j:=1) (by omega);rw [show decide ((1:Int) < ((2:Nat):Int))=true from rfl,cond_true,i1];have h4:(div s).getD (0+1) 0 < s.Steps.length/\1<=(div s).getD (0+1) 0:=f4 1 (by omega);simp only [za];rw [eL (by omega) (by omega)];unfold aL;rw [if_pos (show 0+1 < bk s by omega)]
   try dsimp only
   refine (aW (v:=(dA s (tc s) (aL s 0),([[115,116,97,114,116]]:List (List UInt8)),s.U,s.Steps,eV s,s.U,gl s,dW s (tc s) s.Steps.length,([]:List Int),([]:List aK),([]:List Int),([]:List Int))) ?_).trans ?_
   ·try dsimp only
    rw [ot (hlt 0)];simp only [za,bS,aj.dP];rw [fB (hlt 0) htc,vu s (tc s) (hlt 0)];by_cases hw:(s.Steps[aL s 0]'(hlt 0)).dz=0
    ·rw [au (by simp [hw]),if_pos hw,aF (hlt 0)];simp only [za];rw [aN (fun i:Nat=>((i:Int),([[115,116,97,114,116]]:List (List UInt8)),s.U,s.Steps,eV s,s.U,gl s,dW s (tc s) s.Steps.length,([]:List Int),([]:List aK),([]:List Int),([]:List Int),u9 (s.Steps[aL s 0]'(hlt 0)).af i)) (s.Steps[aL s 0]'(hlt 0)).af.length ?hn (([[115,116,97,114,116]]:List (List UInt8)),s.U,s.Steps,eV s,s.U,gl s,dW s (tc s) s.Steps.length,([]:List Int),([]:List aK),([]:List Int),([]:List Int),(s.Steps[aL s 0]'(hlt 0)).af.map qw) ?h0 ?h ?he]
     case hn=>have:=(h.step _ (hlt 0)).ok.le;unfold fuel;omega
     case h0=>rfl
     case he=>
      try dsimp only
      rw [au (bn (by omega)),ov]
     case h=>
      intro i hi;try dsimp only
      obtain ⟨h1,h2⟩:=(h.step _ (hlt 0)).ok.act i hi;have hle:=(h.step _ (hlt 0)).ok.le;have hl:(u9 (s.Steps[aL s 0]'(hlt 0)).af i).length=i:=by simp [u9];omega
      have e0:cE .i64 2 (s.Steps[aL s 0]'(hlt 0)).af[i].ai=2*(s.Steps[aL s 0]'(hlt 0)).af[i].ai:=by unfold cE;exact wrap_i64 (by omega) (by omega)
      rw [ay (bq (by omega)),aF hi];simp only [za,e0];rw [lG hi,an (by omega)]
      cases hx:(s.Steps[aL s 0]'(hlt 0)).af[i].Out with
      | true=>
       simp only [cond_true,za,bS,aj.dP];rw [bh (by omega) (by omega),aO (by simp [hl];omega) (by simp [hl];omega)];simp [qw,hx,cw]
      | false=>
       simp only [cond_false,za,bS,aj.dP];rw [aO (by simp [hl];omega) (by simp [hl];omega)];simp [qw,hx,cw]
     rfl
    ·rw [ay (by simpa using hw),if_neg hw]
   try dsimp only
   refine (aW (v:=(sev 3 (dA s (tc s) (aL s 0)),([[115,116,97,114,116]]:List (List UInt8)),s.U,s.Steps,eV s,s.U,gl s,dW s (tc s) s.Steps.length,([]:List Int),([]:List aK),([]:List Int),([]:List Int),(sev 3 (dA s (tc s) (aL s 0))).Op,(sev 3 (dA s (tc s) (aL s 0))).Index,(sev 3 (dA s (tc s) (aL s 0))).aq)) ?_).trans ?_
   ·try dsimp only
    by_cases h1:(dA s (tc s) (aL s 0)).length=1
    ·obtain ⟨x,hx⟩:=zaU.1 h1;rw [hx,ay (by rfl),show idx [x] 0=some x from rfl,ou];simp only [za,aj.dP]
    ·rw [au (by rw [beq_eq_false_iff_ne];omega),sQ h1]
   try dsimp only
   refine (aW (v:=((aL s 1:Int),([[115,116,97,114,116]]:List (List UInt8)),s.U,s.Steps,eV s,s.U,gl s,dW s (tc s) s.Steps.length,([]:List Int),([]:List aK),([]:List Int),([]:List Int),(sev 3 (dA s (tc s) (aL s 0))).Op,(sev 3 (dA s (tc s) (aL s 0))).Index,(sev 3 (dA s (tc s) (aL s 0))).aq)) ?_).trans ?_
   ·try dsimp only
    rw [eJ,h2,show decide ((2:Int) < ((2:Nat):Int))=false from rfl,cond_false,eL (by omega) (by omega)];unfold aL;rw [if_neg (show ¬ 1+1 < bk s by omega)]
   try dsimp only
   refine (aW (v:=(dA s (tc s) (aL s 1),([[115,116,97,114,116]]:List (List UInt8)),s.U,s.Steps,eV s,s.U,gl s,dW s (tc s) s.Steps.length,([]:List Int),([]:List aK),([]:List Int),([]:List Int),(sev 3 (dA s (tc s) (aL s 0))).Op,(sev 3 (dA s (tc s) (aL s 0))).Index,(sev 3 (dA s (tc s) (aL s 0))).aq)) ?_).trans ?_
   ·try dsimp only
    rw [ot (hlt 1)];simp only [za,bS,aj.dP];rw [fB (hlt 1) htc,vu s (tc s) (hlt 1)];by_cases hw:(s.Steps[aL s 1]'(hlt 1)).dz=0
    ·rw [au (by simp [hw]),if_pos hw,aF (hlt 1)];simp only [za];rw [aN (fun i:Nat=>((i:Int),([[115,116,97,114,116]]:List (List UInt8)),s.U,s.Steps,eV s,s.U,gl s,dW s (tc s) s.Steps.length,([]:List Int),([]:List aK),([]:List Int),([]:List Int),(sev 3 (dA s (tc s) (aL s 0))).Op,(sev 3 (dA s (tc s) (aL s 0))).Index,(sev 3 (dA s (tc s) (aL s 0))).aq,u9 (s.Steps[aL s 1]'(hlt 1)).af i)) (s.Steps[aL s 1]'(hlt 1)).af.length ?hn (([[115,116,97,114,116]]:List (List UInt8)),s.U,s.Steps,eV s,s.U,gl s,dW s (tc s) s.Steps.length,([]:List Int),([]:List aK),([]:List Int),([]:List Int),(sev 3 (dA s (tc s) (aL s 0))).Op,(sev 3 (dA s (tc s) (aL s 0))).Index,(sev 3 (dA s (tc s) (aL s 0))).aq,(s.Steps[aL s 1]'(hlt 1)).af.map qw) ?h0 ?h ?he]
     case hn=>have:=(h.step _ (hlt 1)).ok.le;unfold fuel;omega
     case h0=>rfl
     case he=>
      try dsimp only
      rw [au (bn (by omega)),ov]
     case h=>
      intro i hi;try dsimp only
      obtain ⟨h1,h2⟩:=(h.step _ (hlt 1)).ok.act i hi;have hle:=(h.step _ (hlt 1)).ok.le;have hl:(u9 (s.Steps[aL s 1]'(hlt 1)).af i).length=i:=by simp [u9];omega
      have e0:cE .i64 2 (s.Steps[aL s 1]'(hlt 1)).af[i].ai=2*(s.Steps[aL s 1]'(hlt 1)).af[i].ai:=by unfold cE;exact wrap_i64 (by omega) (by omega)
      rw [ay (bq (by omega)),aF hi];simp only [za,e0];rw [lG hi,an (by omega)]
      cases hx:(s.Steps[aL s 1]'(hlt 1)).af[i].Out with
      | true=>
       simp only [cond_true,za,bS,aj.dP];rw [bh (by omega) (by omega),aO (by simp [hl];omega) (by simp [hl];omega)];simp [qw,hx,cw]
      | false=>
       simp only [cond_false,za,bS,aj.dP];rw [aO (by simp [hl];omega) (by simp [hl];omega)];simp [qw,hx,cw]
     rfl
    ·rw [ay (by simpa using hw),if_neg hw]
   try dsimp only
   refine (aW (v:=(sev 3 (dA s (tc s) (aL s 1)),([[115,116,97,114,116]]:List (List UInt8)),s.U,s.Steps,eV s,s.U,gl s,dW s (tc s) s.Steps.length,([]:List Int),([]:List aK),([]:List Int),([]:List Int),(sev 3 (dA s (tc s) (aL s 0))).Op,(sev 3 (dA s (tc s) (aL s 0))).Index,(sev 3 (dA s (tc s) (aL s 0))).aq,(sev 3 (dA s (tc s) (aL s 1))).Op,(sev 3 (dA s (tc s) (aL s 1))).Index,(sev 3 (dA s (tc s) (aL s 1))).aq)) ?_).trans ?_
   ·try dsimp only
    by_cases h1:(dA s (tc s) (aL s 1)).length=1
    ·obtain ⟨x,hx⟩:=zaU.1 h1;rw [hx,ay (by rfl),show idx [x] 0=some x from rfl,ou];simp only [za,aj.dP]
    ·rw [au (by rw [beq_eq_false_iff_ne];omega),sQ h1]
   try dsimp only
   refine (aW (aO (by simp) (by simp))).trans ?_;try dsimp only
   have e3:uI s=two s:=by unfold uI;rw [if_pos h2]
   simp only [bS,za,aj.dP,zc3,zag];rw [J0,bh (by omega) (by omega),e3];refine (aW (aO (by simp) (by simp))).trans ?_;rfl
  ·rw [eJ,au (by simp;omega)];have hp:gl s=mods (fst s) (bk s):=by unfold gl;rw [if_neg h2]
   have mi:∀ j,j < bk s->idx (gl s) (j:Int)=some (fst s+(j:Int)):=by
    intro j hj;rw [hp,aF (show j < (mods (fst s) (bk s)).length by simp [mods];exact hj)];simp [mods]
   refine (aW (v:=(([[115,116,97,114,116]]:List (List UInt8)),s.U,s.Steps,eV s,s.U,gl s,dW s (tc s) s.Steps.length,([]:List Int),uI s,([]:List Int),([]:List Int))) ?_).trans ?_
   ·rw [aN (fun k:Nat=>((k:Int),([[115,116,97,114,116]]:List (List UInt8)),s.U,s.Steps,eV s,s.U,gl s,dW s (tc s) s.Steps.length,([]:List Int),eK s k,([]:List Int),([]:List Int))) (bk s) ?hn (([[115,116,97,114,116]]:List (List UInt8)),s.U,s.Steps,eV s,s.U,gl s,dW s (tc s) s.Steps.length,([]:List Int),uI s,([]:List Int),([]:List Int)) ?h0 ?h ?he]
    case hn=>unfold fuel;omega
    case h0=>simp [eK]
    case he=>
     try dsimp only
     rw [au (bn (by omega))];unfold uI;rw [if_neg h2]
    case h=>
     intro k hk;try dsimp only
     have hpv:(k+bk s - 1) % bk s < bk s:=zc1 _ f1;have hnx:(k+1) % bk s < bk s:=zc1 _ f1;obtain ⟨v,hv,SE⟩:=Fi (p:=[103]) (.inl rfl) (show k < 100 by omega);have hml:(eK s k).length=k:=by simp [eK]
     rw [ay (bq (by omega)),Hq hk (by omega)];have i1:=mi _ hpv;have i2:=mi _ hnx;simp only [za,hv,SE,i1,if_true];refine (aW (v:=(((((k+bk s - 1) % bk s):Nat):Int),(aL s ((k+bk s - 1) % bk s):Int),([[115,116,97,114,116]]:List (List UInt8)),s.U,s.Steps,eV s,s.U,gl s,dW s (tc s) s.Steps.length,([]:List Int),eK s k,([]:List Int),([]:List Int))) ?_).trans ?_
     ·try dsimp only
      rw [eJ,an (by omega)];by_cases W4:((k+bk s - 1) % bk s)+1 < bk s
      ·rw [ay (bq (by omega)),iC W4];have h4:=f4 _ W4;simp only [za];rw [eL (by omega) (by omega)];unfold aL;rw [if_pos W4]
      ·rw [au (bn (by omega)),eL (by omega) (by omega)];unfold aL;rw [if_neg W4]
     simp only [za,i1,if_true];refine (aW (v:=(((((k+bk s - 1) % bk s):Nat):Int),dA s (tc s) (aL s ((k+bk s - 1) % bk s)),([[115,116,97,114,116]]:List (List UInt8)),s.U,s.Steps,eV s,s.U,gl s,dW s (tc s) s.Steps.length,([]:List Int),eK s k,([]:List Int),([]:List Int))) ?_).trans ?_
     ·try dsimp only
      rw [ot (hlt ((k+bk s - 1) % bk s))];simp only [za,bS,aj.dP];rw [fB (hlt ((k+bk s - 1) % bk s)) htc,vu s (tc s) (hlt ((k+bk s - 1) % bk s))];by_cases hw:(s.Steps[aL s ((k+bk s - 1) % bk s)]'(hlt ((k+bk s - 1) % bk s))).dz=0
      ·rw [au (by simp [hw]),if_pos hw,aF (hlt ((k+bk s - 1) % bk s))];simp only [za];rw [aN (fun i:Nat=>((i:Int),([[115,116,97,114,116]]:List (List UInt8)),s.U,s.Steps,eV s,s.U,gl s,dW s (tc s) s.Steps.length,([]:List Int),eK s k,([]:List Int),([]:List Int),u9 (s.Steps[aL s ((k+bk s - 1) % bk s)]'(hlt ((k+bk s - 1) % bk s))).af i)) (s.Steps[aL s ((k+bk s - 1) % bk s)]'(hlt ((k+bk s - 1) % bk s))).af.length ?hn (([[115,116,97,114,116]]:List (List UInt8)),s.U,s.Steps,eV s,s.U,gl s,dW s (tc s) s.Steps.length,([]:List Int),eK s k,([]:List Int),([]:List Int),(s.Steps[aL s ((k+bk s - 1) % bk s)]'(hlt ((k+bk s - 1) % bk s))).af.map qw) ?h0 ?h ?he]
       case hn=>have:=(h.step _ (hlt ((k+bk s - 1) % bk s))).ok.le;unfold fuel;omega
       case h0=>rfl
       case he=>
        try dsimp only
        rw [au (bn (by omega)),ov]
       case h=>
        intro i hi;try dsimp only
        obtain ⟨h1,h2⟩:=(h.step _ (hlt ((k+bk s - 1) % bk s))).ok.act i hi;have hle:=(h.step _ (hlt ((k+bk s - 1) % bk s))).ok.le;have hl:(u9 (s.Steps[aL s ((k+bk s - 1) % bk s)]'(hlt ((k+bk s - 1) % bk s))).af i).length=i:=by simp [u9];omega
        have e0:cE .i64 2 (s.Steps[aL s ((k+bk s - 1) % bk s)]'(hlt ((k+bk s - 1) % bk s))).af[i].ai=2*(s.Steps[aL s ((k+bk s - 1) % bk s)]'(hlt ((k+bk s - 1) % bk s))).af[i].ai:=by unfold cE;exact wrap_i64 (by omega) (by omega)
        rw [ay (bq (by omega)),aF hi];simp only [za,e0];rw [lG hi,an (by omega)]
        cases hx:(s.Steps[aL s ((k+bk s - 1) % bk s)]'(hlt ((k+bk s - 1) % bk s))).af[i].Out with
        | true=>
         simp only [cond_true,za,bS,aj.dP];rw [bh (by omega) (by omega),aO (by simp [hl];omega) (by simp [hl];omega)];simp [qw,hx,cw]
        | false=>
         simp only [cond_false,za,bS,aj.dP];rw [aO (by simp [hl];omega) (by simp [hl];omega)];simp [qw,hx,cw]
       rfl
      ·rw [ay (by simpa using hw),if_neg hw]
     simp only [za,i1,if_true,bS,aj.dP];have Ia:=rU h (tc s) (aL s ((k+bk s - 1) % bk s));rw [aO (by simp;omega) (by simp;omega)];simp only [za,zbq];refine (aW (v:=(sev 3 (cw (fst s+(((k+bk s - 1) % bk s):Nat))::dA s (tc s) (aL s ((k+bk s - 1) % bk s))),([[115,116,97,114,116]]:List (List UInt8)),s.U,s.Steps,eV s,s.U,gl s,dW s (tc s) s.Steps.length,([]:List Int),eK s k,([]:List Int),([]:List Int),(0:Int),(0:Int),([]:List aj),(sev 3 (cw (fst s+(((k+bk s - 1) % bk s):Nat))::dA s (tc s) (aL s ((k+bk s - 1) % bk s)))).Op,(sev 3 (cw (fst s+(((k+bk s - 1) % bk s):Nat))::dA s (tc s) (aL s ((k+bk s - 1) % bk s)))).Index,(sev 3 (cw (fst s+(((k+bk s - 1) % bk s):Nat))::dA s (tc s) (aL s ((k+bk s - 1) % bk s)))).aq)) ?_).trans ?_
     ·try dsimp only
      by_cases h1:(cw (fst s+(((k+bk s - 1) % bk s):Nat))::dA s (tc s) (aL s ((k+bk s - 1) % bk s))).length=1
      ·obtain ⟨x,hx⟩:=zaU.1 h1;rw [hx,ay (by rfl),show idx [x] 0=some x from rfl,ou];simp only [za,aj.dP]
      ·rw [au (by rw [beq_eq_false_iff_ne];omega),sQ h1]
     rw [Hr hk (by omega)];simp only [za,i2,if_true,bS,aj.dP];rw [aO (by simp [hml];omega) (by simp [hml];omega),an (by omega),ur];rfl
   rfl
 try dsimp only
 refine (aW (v:=(([[115,116,97,114,116]]:List (List UInt8)),s.U,s.Steps,eV s,s.U,gl s,dW s (tc s) s.Steps.length,([]:List Int),kW s,([]:List Int),([]:List Int))) ?_).trans ?_
 ·try dsimp only
  rw [aN (fun k:Nat=>((k:Int),([[115,116,97,114,116]]:List (List UInt8)),s.U,s.Steps,eV s,s.U,gl s,dW s (tc s) s.Steps.length,([]:List Int),uI s++jy s (bp s s.Steps.length) k,([]:List Int),([]:List Int))) s.Steps.length ?hn (([[115,116,97,114,116]]:List (List UInt8)),s.U,s.Steps,eV s,s.U,gl s,dW s (tc s) s.Steps.length,([]:List Int),kW s,([]:List Int),([]:List Int)) ?h0 ?h ?he]
  case hn=>unfold fuel;omega
  case h0=>simp [jy]
  case he=>
   try dsimp only
   rw [au (bn (by omega))];rfl
  case h=>
   intro k hk;try dsimp only
   have j4:=rR s (bp s s.Steps.length) k;have SA:=vv (s:=s);have ho:=hst k hk;have hwt:=ho.wait;have hg:=sR h k;have hgi:idx (gl s) (vH s k:Int)=some (Jz s k):=Ba hg;have e:nE s (bp s s.Steps.length) k=if s.Steps[k].dz=0 then [] else [⟨nameOf [119] k,2,⟨3,0,cw (Jz s k)::s.Steps[k].af.map qw⟩,Wf,s.Steps[k].dz,false⟩]:=by
    unfold nE;rw [za2 hk,za2 (show k < (bp s s.Steps.length).length by rw [vz];exact hk)];simp [bp,Jz]
   rw [ay (bq (by omega)),aF hk];simp only [za];refine (aW (v:=(([[115,116,97,114,116]]:List (List UInt8)),s.U,s.Steps,eV s,s.U,gl s,dW s (tc s) s.Steps.length,([]:List Int),uI s++jy s (bp s s.Steps.length) (k+1),([]:List Int),([]:List Int))) ?_).trans ?_
   ·rw [oJ,e];by_cases hw:s.Steps[k].dz=0
    ·rw [au (by simp;omega),if_pos hw,zbo]
    ·rw [ay (by simp;omega),if_neg hw];obtain ⟨v,hv,SE⟩:=Fi (p:=[119]) (.inr (.inr rfl)) (show k < 100 by omega);simp only [za,hv,SE,if_true];refine (aW (v:=((vH s k:Int),([[115,116,97,114,116]]:List (List UInt8)),s.U,s.Steps,eV s,s.U,gl s,dW s (tc s) s.Steps.length,([]:List Int),uI s++jy s (bp s s.Steps.length) k,([]:List Int),([]:List Int))) ?_).trans ?_
     ·rw [eJ,eL f1 (by omega)];rw [aN (fun t:Nat=>(((bk s - 1 - t:Nat):Int),([[115,116,97,114,116]]:List (List UInt8)),s.U,s.Steps,eV s,s.U,gl s,dW s (tc s) s.Steps.length,([]:List Int),uI s++jy s (bp s s.Steps.length) k,([]:List Int),([]:List Int))) (bk s - 1 - vH s k) ?hn ((vH s k:Int),([[115,116,97,114,116]]:List (List UInt8)),s.U,s.Steps,eV s,s.U,gl s,dW s (tc s) s.Steps.length,([]:List Int),uI s++jy s (bp s s.Steps.length) k,([]:List Int),([]:List Int)) ?h0 ?h ?he]
      case hn=>unfold fuel;omega
      case h0=>rfl
      case he=>
       try dsimp only
       have hg:=sR h k;rw [show bk s - 1 - (bk s - 1 - vH s k)=vH s k by omega,iC hg];simp only [za];have:=Bb h k;rw [au (by simp only [decide_eq_false_iff_not];omega)]
      case h=>
       intro t ht;try dsimp only
       rw [iC (show bk s - 1 - t < bk s by omega)];simp only [za];have:=tJ (o:=div s) (k:=k) (m:=bk s) (j:=bk s - 1 - t) (by unfold vH at ht;omega) (by omega);rw [ay (by simp only [decide_eq_true_eq];omega),eL (by omega) (by omega)];rfl
     simp only [za,hgi,if_true];rw [aF hk];simp only [za];refine (aW (v:=(([[115,116,97,114,116]]:List (List UInt8)),s.U,s.Steps,eV s,s.U,gl s,dW s (tc s) s.Steps.length,([]:List Int),uI s++jy s (bp s s.Steps.length) k,([]:List Int),([]:List Int),s.Steps[k].af.map qw)) ?_).trans ?_
     ·rw [aN (fun i:Nat=>((i:Int),([[115,116,97,114,116]]:List (List UInt8)),s.U,s.Steps,eV s,s.U,gl s,dW s (tc s) s.Steps.length,([]:List Int),uI s++jy s (bp s s.Steps.length) k,([]:List Int),([]:List Int),u9 (s.Steps[k]'hk).af i)) (s.Steps[k]'hk).af.length ?hn (([[115,116,97,114,116]]:List (List UInt8)),s.U,s.Steps,eV s,s.U,gl s,dW s (tc s) s.Steps.length,([]:List Int),uI s++jy s (bp s s.Steps.length) k,([]:List Int),([]:List Int),(s.Steps[k]'hk).af.map qw) ?h0 ?h ?he]
      case hn=>have:=(h.step _ hk).ok.le;unfold fuel;omega
      case h0=>rfl
      case he=>
       try dsimp only
       rw [au (bn (by omega)),ov]
      case h=>
       intro i hi;try dsimp only
       obtain ⟨h1,h2⟩:=(h.step _ hk).ok.act i hi;have hle:=(h.step _ hk).ok.le;have hl:(u9 (s.Steps[k]'hk).af i).length=i:=by simp [u9];omega
       have e0:cE .i64 2 (s.Steps[k]'hk).af[i].ai=2*(s.Steps[k]'hk).af[i].ai:=by unfold cE;exact wrap_i64 (by omega) (by omega)
       rw [ay (bq (by omega)),aF hi];simp only [za,e0];rw [lG hi,an (by omega)]
       cases hx:(s.Steps[k]'hk).af[i].Out with
       | true=>
        simp only [cond_true,za,bS,aj.dP];rw [bh (by omega) (by omega),aO (by simp [hl];omega) (by simp [hl];omega)];simp [qw,hx,cw]
       | false=>
        simp only [cond_false,za,bS,aj.dP];rw [aO (by simp [hl];omega) (by simp [hl];omega)];simp [qw,hx,cw]
     simp only [za,hgi,if_true,bS,aj.dP];have hle:=ho.le;rw [aO (by simp;omega) (by simp;omega)];simp only [za,zbq];obtain ⟨y,l,W1⟩:∃ y l,s.Steps[k].af.map qw=y::l:=by
      cases hq:s.Steps[k].af with
      | nil=>have:=ho.pos;rw [hq] at this;simp at this
      | cons a l=>exact ⟨_,_,rfl⟩
     rw [W1,au (by simp;omega)];simp only [za,if_true,aj.dP];rw [aO (by simp;omega) (by simp;omega)];simp only [za,if_true];rw [zaz];rfl
   try dsimp only
   rw [an (by omega)]
 try dsimp only
 refine (aW (v:=(([[115,116,97,114,116]]:List (List UInt8)),s.U,s.Steps,eV s,s.U,gl s,dW s (tc s) s.Steps.length,dZ s s.Steps.length,qu s,([]:List Int),([]:List Int))) ?_).trans ?_
 ·try dsimp only
  rw [aN (fun k:Nat=>((k:Int),([[115,116,97,114,116]]:List (List UInt8)),s.U,s.Steps,eV s,s.U,gl s,dW s (tc s) s.Steps.length,dZ s k,kW s++dN s k,([]:List Int),([]:List Int))) s.Steps.length ?hn (([[115,116,97,114,116]]:List (List UInt8)),s.U,s.Steps,eV s,s.U,gl s,dW s (tc s) s.Steps.length,dZ s s.Steps.length,qu s,([]:List Int),([]:List Int)) ?h0 ?h ?he]
  case hn=>unfold fuel;omega
  case h0=>simp [dN,dZ]
  case he=>
   try dsimp only
   rw [au (bn (by omega))];rfl
  case h=>
   intro k hk;try dsimp only
   have vG:=qo (s:=s) (k:=k);have y9:=xC (s:=s);have Rq:=vA (s:=s) (k:=k);have hg:=sR h k;have hgi:idx (gl s) (vH s k:Int)=some (Jz s k):=Ba hg;have hle:=Bb h k;rw [ay (bq (by omega))];refine (aW (v:=((vH s k:Int),([[115,116,97,114,116]]:List (List UInt8)),s.U,s.Steps,eV s,s.U,gl s,dW s (tc s) s.Steps.length,dZ s k,kW s++dN s k,([]:List Int),([]:List Int))) ?_).trans ?_
   ·rw [eJ,eL f1 (by omega)];rw [aN (fun t:Nat=>(((bk s - 1 - t:Nat):Int),([[115,116,97,114,116]]:List (List UInt8)),s.U,s.Steps,eV s,s.U,gl s,dW s (tc s) s.Steps.length,dZ s k,kW s++dN s k,([]:List Int),([]:List Int))) (bk s - 1 - vH s k) ?hn ((vH s k:Int),([[115,116,97,114,116]]:List (List UInt8)),s.U,s.Steps,eV s,s.U,gl s,dW s (tc s) s.Steps.length,dZ s k,kW s++dN s k,([]:List Int),([]:List Int)) ?h0 ?h ?he]
    case hn=>unfold fuel;omega
    case h0=>rfl
    case he=>
     try dsimp only
     have hg:=sR h k;rw [show bk s - 1 - (bk s - 1 - vH s k)=vH s k by omega,iC hg];simp only [za];have:=Bb h k;rw [au (by simp only [decide_eq_false_iff_not];omega)]
    case h=>
     intro t ht;try dsimp only
     rw [iC (show bk s - 1 - t < bk s by omega)];simp only [za];have:=tJ (o:=div s) (k:=k) (m:=bk s) (j:=bk s - 1 - t) (by unfold vH at ht;omega) (by omega);rw [ay (by simp only [decide_eq_true_eq];omega),eL (by omega) (by omega)];rfl
   try dsimp only
   refine (aW (v:=(more s k,([[115,116,97,114,116]]:List (List UInt8)),s.U,s.Steps,eV s,s.U,gl s,dW s (tc s) s.Steps.length,dZ s k,kW s++dN s k,([]:List Int),([]:List Int))) ?_).trans ?_
   ·by_cases h0:k=0
    ·rw [ay (by simp [h0]),J0];unfold more;rw [if_pos h0];rfl
    ·rw [au (by simp;omega),iC hg];simp only [za];refine (aW (v:=(more s k,([[115,116,97,114,116]]:List (List UInt8)),s.U,s.Steps,eV s,s.U,gl s,dW s (tc s) s.Steps.length,dZ s k,kW s++dN s k,([]:List Int),([]:List Int))) ?_).trans rfl;by_cases hc2:(div s).getD (vH s k) 0 < k
     ·have em:more s k=dA s (tc s) (k - 1):=by unfold more;rw [if_neg h0,if_pos hc2]
      have so:k - 1 < s.Steps.length:=by omega
      rw [ay (bq (by omega)),em,eL (by omega) (by omega)];refine (aW (v:=(dA s (tc s) (k - 1),([[115,116,97,114,116]]:List (List UInt8)),s.U,s.Steps,eV s,s.U,gl s,dW s (tc s) s.Steps.length,dZ s k,kW s++dN s k,([]:List Int),([]:List Int))) ?_).trans rfl;rw [ot so];simp only [za,bS,aj.dP];rw [fB so htc,vu s (tc s) so];by_cases hw:(s.Steps[k - 1]'so).dz=0
      ·rw [au (by simp [hw]),if_pos hw,aF so];simp only [za];rw [aN (fun i:Nat=>((i:Int),([[115,116,97,114,116]]:List (List UInt8)),s.U,s.Steps,eV s,s.U,gl s,dW s (tc s) s.Steps.length,dZ s k,kW s++dN s k,([]:List Int),([]:List Int),u9 (s.Steps[k - 1]'so).af i)) (s.Steps[k - 1]'so).af.length ?hn (([[115,116,97,114,116]]:List (List UInt8)),s.U,s.Steps,eV s,s.U,gl s,dW s (tc s) s.Steps.length,dZ s k,kW s++dN s k,([]:List Int),([]:List Int),(s.Steps[k - 1]'so).af.map qw) ?h0 ?h ?he]
       case hn=>have:=(h.step _ so).ok.le;unfold fuel;omega
       case h0=>rfl
       case he=>
        try dsimp only
        rw [au (bn (by omega)),ov]
       case h=>
        intro i hi;try dsimp only
        obtain ⟨h1,h2⟩:=(h.step _ so).ok.act i hi;have hle:=(h.step _ so).ok.le;have hl:(u9 (s.Steps[k - 1]'so).af i).length=i:=by simp [u9];omega
        have e0:cE .i64 2 (s.Steps[k - 1]'so).af[i].ai=2*(s.Steps[k - 1]'so).af[i].ai:=by unfold cE;exact wrap_i64 (by omega) (by omega)
        rw [ay (bq (by omega)),aF hi];simp only [za,e0];rw [lG hi,an (by omega)]
        cases hx:(s.Steps[k - 1]'so).af[i].Out with
        | true=>
         simp only [cond_true,za,bS,aj.dP];rw [bh (by omega) (by omega),aO (by simp [hl];omega) (by simp [hl];omega)];simp [qw,hx,cw]
        | false=>
         simp only [cond_false,za,bS,aj.dP];rw [aO (by simp [hl];omega) (by simp [hl];omega)];simp [qw,hx,cw]
       rfl
      ·rw [ay (by simpa using hw),if_neg hw]
     ·have em:more s k=[]:=by unfold more;rw [if_neg h0,if_neg hc2]
      rw [au (bn (by omega)),em]
   obtain ⟨v,hv,SE⟩:=Fi (p:=[115]) (.inr (.inl rfl)) (show k < 100 by omega);simp only [za,hv,SE,hgi,if_true,bS,aj.dP];have hml:=M3 h k;rw [aO (by simp;omega) (by simp;omega)];simp only [za,zbq];refine (aW (v:=(sev 3 (cw (Jz s k)::more s k),([[115,116,97,114,116]]:List (List UInt8)),s.U,s.Steps,eV s,s.U,gl s,dW s (tc s) s.Steps.length,dZ s k,kW s++dN s k,([]:List Int),([]:List Int),(0:Int),(0:Int),([]:List aj),(sev 3 (cw (Jz s k)::more s k)).Op,(sev 3 (cw (Jz s k)::more s k)).Index,(sev 3 (cw (Jz s k)::more s k)).aq)) ?_).trans ?_
   ·show (bif ((((cw (Jz s k)::more s k).length:Nat):Int)==1) then _ else _)=_;by_cases h1:(cw (Jz s k)::more s k).length=1
    ·obtain ⟨x,hx⟩:=zaU.1 h1;rw [hx,ay (by rfl),show idx [x] 0=some x from rfl,ou];simp only [za,aj.dP]
    ·rw [au (by rw [beq_eq_false_iff_ne];omega),sQ h1]
   simp only [za,if_true,aj.dP];rw [aO (by rw [za9];simp;omega) (by rw [za9];simp;omega)];simp only [za,if_true];rw [aO (by simp [Rq];omega) (by simp [Rq];omega),J0];simp only [za,if_true];have hlen:((kW s++dN s k++[zm s k]).length:Int)=(bk s:Int)+(tn s:Int)+(k:Int)+1:=by
    rw [za9,za9,y9,vG];simp
   have Cv:aI .i64 (2*s.U) ((kW s++dN s k++[zm s k]).length:Int)=fst s+(bk s:Int)+(tn s:Int)+(k:Int):=by
    rw [hlen,bh (by omega) (by omega)];unfold fst;omega
   rw [an (by omega),Dm,uu,<-zaz,<-Cv];rfl
 try dsimp only
 refine (aW (v:=(([[115,116,97,114,116]]:List (List UInt8)),s.U,s.Steps,eV s,s.U,gl s,dW s (tc s) s.Steps.length,dZ s s.Steps.length,qu s++g8 s (dZ s s.Steps.length) s.U.toNat,pm s 0 s.U.toNat,pm s 1 s.U.toNat)) ?_).trans ?_
 ·try dsimp only
  rw [aN (fun k:Nat=>((k:Int),([[115,116,97,114,116]]:List (List UInt8)),s.U,s.Steps,eV s,s.U,gl s,dW s (tc s) s.Steps.length,dZ s s.Steps.length,qu s++g8 s (dZ s s.Steps.length) k,pm s 0 k,pm s 1 k)) s.U.toNat ?hn (([[115,116,97,114,116]]:List (List UInt8)),s.U,s.Steps,eV s,s.U,gl s,dW s (tc s) s.Steps.length,dZ s s.Steps.length,qu s++g8 s (dZ s s.Steps.length) s.U.toNat,pm s 0 s.U.toNat,pm s 1 s.U.toNat) ?h0 ?h ?he]
  case hn=>unfold fuel;omega
  case h0=>simp [g8,pm]
  case he=>
   try dsimp only
   rw [au (bn (by omega))]
  case h=>
   intro a ha;try dsimp only
   have dm:=lF s (dZ s s.Steps.length) a;have Er:=vn (s:=s);have W5:=Bc (s:=s) (d:=0) (k:=a);have W6:=Bc (s:=s) (d:=1) (k:=a);rw [ay (bq (by omega))];refine (aW (v:=(([[115,116,97,114,116]]:List (List UInt8)),s.U,s.Steps,eV s,s.U,gl s,dW s (tc s) s.Steps.length,dZ s s.Steps.length,qu s++g8 s (dZ s s.Steps.length) (a+1),pm s 0 (a+1),pm s 1 (a+1))) ?_).trans ?_
   ·rw [aN (fun k:Nat=>((k:Int),([[115,116,97,114,116]]:List (List UInt8)),s.U,s.Steps,eV s,s.U,gl s,dW s (tc s) s.Steps.length,dZ s s.Steps.length,qu s++g8 s (dZ s s.Steps.length) a++(([true,false]:List Bool).take k).map (di s (dZ s s.Steps.length) a),if k=0 then pm s 0 a else pm s 0 (a+1),if k=2 then pm s 1 (a+1) else pm s 1 a)) 2 ?hn (([[115,116,97,114,116]]:List (List UInt8)),s.U,s.Steps,eV s,s.U,gl s,dW s (tc s) s.Steps.length,dZ s s.Steps.length,qu s++g8 s (dZ s s.Steps.length) (a+1),pm s 0 (a+1),pm s 1 (a+1)) ?h0 ?h ?he]
    case hn=>unfold fuel;omega
    case h0=>simp
    case he=>
     try dsimp only
     rw [au (by rfl),tK,zaz];rfl
    case h=>
     intro k hk;try dsimp only
     have hk':k < ([true,false]:List Bool).length:=hk;rw [ay (bq (by simp;omega)),aF hk'];simp only [za];have et:(([true,false]:List Bool).take (k+1)).map (di s (dZ s s.Steps.length) a)=(([true,false]:List Bool).take k).map (di s (dZ s s.Steps.length) a)++[di s (dZ s s.Steps.length) a (([true,false]:List Bool)[k])]:=by
      rw [zaV,za2 hk',zal];rfl
     have hle:(qu s++g8 s (dZ s s.Steps.length) a++(([true,false]:List Bool).take k).map (di s (dZ s s.Steps.length) a)).length=(qu s).length+2*a+k:=by
      rw [za9,za9,dm,zah,zbu];simp;omega
     rw [et,<-zaz];generalize qu s++g8 s (dZ s s.Steps.length) a++(([true,false]:List Bool).take k).map (di s (dZ s s.Steps.length) a)=acc at hle ⊢;refine (aW (v:=(([[115,116,97,114,116]]:List (List UInt8)),s.U,s.Steps,eV s,s.U,gl s,dW s (tc s) s.Steps.length,dZ s s.Steps.length,acc,if k=0 then pm s 0 a else pm s 0 (a+1),if k=2 then pm s 1 (a+1) else pm s 1 a,ud s (dZ s s.Steps.length) a (([true,false]:List Bool)[k]) s.Steps.length)) ?_).trans ?_
     ·generalize ([true,false]:List Bool)[k]=o;rw [aN (fun j:Nat=>((j:Int),([[115,116,97,114,116]]:List (List UInt8)),s.U,s.Steps,eV s,s.U,gl s,dW s (tc s) s.Steps.length,dZ s s.Steps.length,acc,if k=0 then pm s 0 a else pm s 0 (a+1),if k=2 then pm s 1 (a+1) else pm s 1 a,ud s (dZ s s.Steps.length) a o j)) s.Steps.length ?hn (([[115,116,97,114,116]]:List (List UInt8)),s.U,s.Steps,eV s,s.U,gl s,dW s (tc s) s.Steps.length,dZ s s.Steps.length,acc,if k=0 then pm s 0 a else pm s 0 (a+1),if k=2 then pm s 1 (a+1) else pm s 1 a,ud s (dZ s s.Steps.length) a o s.Steps.length) ?h0 ?h ?he]
      case hn=>unfold fuel;omega
      case h0=>rfl
      case he=>
       try dsimp only
       rw [au (bn (by omega))]
      case h=>
       intro j hj;try dsimp only
       have hl:=ry s (dZ s s.Steps.length) a o j;have vG:=vA (s:=s) (k:=s.Steps.length);rw [ay (bq (by omega)),aF hj];simp only [za];rw [Qr _ _ _ (hst j hj).le,Dn hj (by omega),an (by omega)];simp only [za]
       cases s.Steps[j].af.any (hit a o) with
       | true=>
        simp only [cond_true];rw [aF (show j < (dZ s s.Steps.length).length by omega)];simp only [za,bS,aj.dP];rw [aO (by simp;omega) (by simp;omega)];rfl
       | false=>simp
     try dsimp only
     rw [an (show a < _ by omega),Ht (show a < 6 by omega)];simp only [za];have hk2:k=0\/k=1:=by omega
     rcases hk2 with rfl | rfl
     ·have Ia:=ry s (dZ s s.Steps.length) a true s.Steps.length;simp only [zaF,zbh,show ((0:Nat)=2)=False from eq_false (by decide),show ((1:Nat)=0)=False from eq_false (by decide),show ((1:Nat)=2)=False from eq_false (by decide),show ((0+1:Nat)=0)=False from eq_false (by decide),show ((0+1:Nat)=2)=False from eq_false (by decide),show ((1+1:Nat)=0)=False from eq_false (by decide),show ((1+1:Nat)=2)=True from eq_true (by decide),if_true,if_false];show ((bif true then _ else _:Option _).bind _)=_;rw [cond_true,xD];simp only [za];refine (aW (v:=(([[115,116,97,114,116]]:List (List UInt8)),s.U,s.Steps,eV s,s.U,gl s,dW s (tc s) s.Steps.length,dZ s s.Steps.length,acc++[di s (dZ s s.Steps.length) a true],pm s 0 (a+1),pm s 1 a)) ?_).trans ?_
      ·refine (aW (v:=(sev 4 (ud s (dZ s s.Steps.length) a true s.Steps.length),([[115,116,97,114,116]]:List (List UInt8)),s.U,s.Steps,eV s,s.U,gl s,dW s (tc s) s.Steps.length,dZ s s.Steps.length,acc,pm s 0 a,pm s 1 a,(sev 4 (ud s (dZ s s.Steps.length) a true s.Steps.length)).Op,(sev 4 (ud s (dZ s s.Steps.length) a true s.Steps.length)).Index,(sev 4 (ud s (dZ s s.Steps.length) a true s.Steps.length)).aq)) ?_).trans ?_
       ·show (bif (((ud s (dZ s s.Steps.length) a true s.Steps.length).length:Int)==1) then _ else _)=_;by_cases h1:(ud s (dZ s s.Steps.length) a true s.Steps.length).length=1
        ·obtain ⟨x,hx⟩:=zaU.1 h1;rw [hx,ay (by rfl),show idx [x] 0=some x from rfl,ou];simp only [za,aj.dP]
        ·rw [au (by rw [beq_eq_false_iff_ne];omega),sQ h1]
       simp only [za,if_true,aj.dP];rw [aO (by simp;omega) (by simp;omega)];simp only [za,if_true];rw [aO (by simp [W5];omega) (by simp [W5];omega),J0];simp only [za,if_true];have hlen:aI .i64 (2*s.U) ((acc++[di s (dZ s s.Steps.length) a true]).length:Int)=fst s+((qu s).length:Int)+2*(a:Int)+0:=by
        rw [za9,hle,bh (by simp;omega) (by simp;omega)];unfold fst;simp;omega
       rw [vB (d:=0),<-hlen];rfl
      ·rfl
     ·have Ia:=ry s (dZ s s.Steps.length) a false s.Steps.length;simp only [zaF,zbh,show ((0:Nat)=2)=False from eq_false (by decide),show ((1:Nat)=0)=False from eq_false (by decide),show ((1:Nat)=2)=False from eq_false (by decide),show ((0+1:Nat)=0)=False from eq_false (by decide),show ((0+1:Nat)=2)=False from eq_false (by decide),show ((1+1:Nat)=0)=False from eq_false (by decide),show ((1+1:Nat)=2)=True from eq_true (by decide),if_true,if_false];show ((bif false then _ else _:Option _).bind _)=_;rw [cond_false,xD];simp only [za];refine (aW (v:=(([[115,116,97,114,116]]:List (List UInt8)),s.U,s.Steps,eV s,s.U,gl s,dW s (tc s) s.Steps.length,dZ s s.Steps.length,acc++[di s (dZ s s.Steps.length) a false],pm s 0 (a+1),pm s 1 (a+1))) ?_).trans ?_
      ·refine (aW (v:=(sev 4 (ud s (dZ s s.Steps.length) a false s.Steps.length),([[115,116,97,114,116]]:List (List UInt8)),s.U,s.Steps,eV s,s.U,gl s,dW s (tc s) s.Steps.length,dZ s s.Steps.length,acc,pm s 0 (a+1),pm s 1 a,(sev 4 (ud s (dZ s s.Steps.length) a false s.Steps.length)).Op,(sev 4 (ud s (dZ s s.Steps.length) a false s.Steps.length)).Index,(sev 4 (ud s (dZ s s.Steps.length) a false s.Steps.length)).aq)) ?_).trans ?_
       ·show (bif (((ud s (dZ s s.Steps.length) a false s.Steps.length).length:Int)==1) then _ else _)=_;by_cases h1:(ud s (dZ s s.Steps.length) a false s.Steps.length).length=1
        ·obtain ⟨x,hx⟩:=zaU.1 h1;rw [hx,ay (by rfl),show idx [x] 0=some x from rfl,ou];simp only [za,aj.dP]
        ·rw [au (by rw [beq_eq_false_iff_ne];omega),sQ h1]
       simp only [za,if_true,aj.dP];rw [aO (by simp;omega) (by simp;omega)];simp only [za,if_true];rw [aO (by simp [W6];omega) (by simp [W6];omega),J0];simp only [za,if_true];have hlen:aI .i64 (2*s.U) ((acc++[di s (dZ s s.Steps.length) a false]).length:Int)=fst s+((qu s).length:Int)+2*(a:Int)+1:=by
        rw [za9,hle,bh (by simp;omega) (by simp;omega)];unfold fst;simp;omega
       rw [vB (d:=1),<-hlen];rfl
      ·rfl
   try dsimp only
   rw [an (by omega)]
 try dsimp only
 have dm:=lF s (dZ s s.Steps.length) s.U.toNat;have Er:=vn (s:=s);have hlen:((qu s++g8 s (dZ s s.Steps.length) s.U.toNat).length:Int)=((bk s+tn s+s.Steps.length+2*s.U.toNat:Nat):Int):=by rw [za9,dm,Er]
 rw [hlen];by_cases hb:64 < bk s+tn s+s.Steps.length+2*s.U.toNat
 ·rw [if_pos hb,ay (by simp only [decide_eq_true_eq];omega)]
 ·rw [if_neg hb,au (by simp only [decide_eq_false_iff_not];omega)];rfl
end cK
end
section
namespace cK
open Go Go.Pl
theorem adl {n:Int} (h0:0<=n) (h1:n<=256):cB .i64 n 1=n - 1:=fW (by omega) (by omega)
theorem PS (x:aj) (n:Int) (h0:0<=n) (h1:n<=256) (hl:(x.aq.length:Int)<=256):JH x n=B8 x n:=by
 obtain ⟨op,ix,xs⟩:=x;unfold JH B8;dsimp only at hl ⊢;by_cases o0:op < 0
 ·simp [o0]
 by_cases o5:op≥5
 ·simp [o0,o5]
 have:op=0\/op=1\/op=2\/op=3\/op=4:=by omega
 have hs:=adl h0 h1;have e1:(n - 1 < ix)=(n<=ix):=propext ⟨fun h=>by omega,fun h=>by omega⟩;generalize xs.length=L at hl ⊢;have l0:¬ ((L:Nat):Int) < 0:=by omega
 have l9:¬ 256 < ((L:Nat):Int):=by omega
 have l8:¬ ((L:Nat):Int) > 256:=by omega
 have hL:L=0\/L=1\/2<=L:=by omega
 have hI:ix < 0\/ix=0\/ix=1\/2<=ix:=by omega
 rcases this with rfl | rfl | rfl | rfl | rfl<;>rcases hL with rfl | rfl | hL<;>simp [hs,e1,l0,l9]
 all_goals (try have q1:¬ L=0:=by omega)
 all_goals (try have q2:¬ L=1:=by omega)
 all_goals (try have q3:0 < L:=by omega)
 all_goals (try have q4:1 < L:=by omega)
 all_goals (try have q5:¬ L < 2:=by omega)
 all_goals (try have q6:¬ (L:Int) < 2:=by omega)
 all_goals (try have q7:¬ (L:Int) < 1:=by omega)
 all_goals (try have q8:((L:Int) !=0)=true:=bne_iff_ne.2 (by omega))
 all_goals (try have q9:((L:Int) !=1)=true:=bne_iff_ne.2 (by omega))
 all_goals (try have qa:1 < (L:Int):=by omega)
 all_goals (try simp [qa,q8,q9,q1,q2,q3,q4,q5,q6,q7,l0,l9])
 all_goals (try (rcases hI with h | rfl | rfl | h<;>first | rfl | (have p1:¬ ix < 0:=by omega;have p2:1 < ix:=by omega;have p3:0 < ix:=by omega;have p4:1<=ix:=by omega;simp [h,p1,p2,p3,p4]) | simp [h] | simp))
end cK
end
section
namespace cK
open Go Go.Pl
mutual
def u7:aj->Nat
 | ⟨_,_,l⟩=>1+ff l
def ff:List aj->Nat
 | []=>0
 | x::l=>u7 x+ff l
end
theorem eta (x:aj):(⟨x.Op,x.Index,x.aq⟩:aj)=x:=by cases x;rfl
theorem nJ (x:aj):u7 x=1+ff x.aq:=by cases x;rw [u7]
theorem Br (x:aj):1<=u7 x:=by rw [nJ];omega
theorem tH:∀ (l:List aj) (i:Nat) (h:i < l.length),ff (l.take (i+1))=ff (l.take i)+u7 l[i]
 | x::l,0,h=>by simp [ff]
 | x::l,i+1,h=>by
  have:=tH l i (by simpa using h);simp only [zbY,ff,zbh];omega
theorem Bs:∀ (l:List aj) (i:Nat),ff (l.take i)<=ff l
 | [],i=>by simp
 | x::l,0=>by simp [ff]
 | x::l,i+1=>by
  have:=Bs l i;simp only [zbY,ff];omega
theorem rJ:∀ (l:List aj) (i:Nat),i<=l.length->i<=ff (l.take i)
 | l,0,_=>by simp
 | x::l,i+1,h=>by
  have:=rJ l i (by simpa using h);have:=Br x;simp only [zbY,ff];omega
theorem count_eq:∀ (k:Nat) (x:aj) (m:Nat),m<=256->m < k->Ik k x (m:Int)=some ((min (u7 x) (m+1):Nat):Int)
 | 0,x,m,_,h=>by omega
 | k+1,x,m,hm,hk=>by
  show TJ (Ik k) x m=_;unfold TJ;obtain ⟨r,h1,h2⟩:=zV (body:=fun s1:Int×Int=>(((bif (decide (s1.2 < (x.aq.length:Int))) then some (decide (s1.1<=(m:Int))) else some false):Option (Bool)).bind fun w3=>(bif w3 then (idx x.aq s1.2).bind fun v4=>(Ik k (⟨v4.Op,v4.Index,v4.aq⟩:aj) (cB .i64 m s1.1)).bind fun v5=>some (.inl ((aI .i64 s1.1 v5),(aI .i64 s1.2 1))) else some (.inr s1.1)):Option ((Int×Int)⊕(Int)))) (t0:=1) (m+1) (show m+1 < 2 ^ 64 by omega)
   (fun i t=>i<=x.aq.length/\t=((min (1+ff (x.aq.take i)) (m+1):Nat):Int)) (fun r=>r=((min (u7 x) (m+1):Nat):Int)) ⟨zaJ _,by simp [ff]⟩ (by
   rintro i t hi ⟨h1,h2⟩;subst h2;dsimp only;have hz:=nJ x;by_cases hl:i < x.aq.length
   ·rw [bq (show ((i:Nat):Int) < (x.aq.length:Int) by omega),cond_true];dsimp only [Option.bind];have hT:=tH x.aq i hl;have hP:=Br x.aq[i];have hB:=rJ x.aq i h1;by_cases hc:1+ff (x.aq.take i)<=m
    ·have e1:min (1+ff (x.aq.take i)) (m+1)=1+ff (x.aq.take i):=by omega
     rw [e1];refine .inl ⟨((min (1+ff (x.aq.take (i+1))) (m+1):Nat):Int),by omega,?_,by omega,rfl⟩;rw [JS (show ((1+ff (x.aq.take i):Nat):Int)<=(m:Int) by omega),cond_true,aF hl];dsimp only;rw [fW (by omega) (by omega),show (m:Int) - ((1+ff (x.aq.take i):Nat):Int)=((m - (1+ff (x.aq.take i)):Nat):Int) by omega];rw [eta,count_eq k x.aq[i] (m - (1+ff (x.aq.take i))) (by omega) (by omega)];dsimp only;rw [bh (by omega) (by omega),an (by omega),hT];congr 3;omega
    ·have e1:min (1+ff (x.aq.take i)) (m+1)=m+1:=by omega
     rw [e1];refine .inr ⟨((m+1:Nat):Int),?_,?_⟩
     ·rw [TB (show ¬ ((m+1:Nat):Int)<=(m:Int) by omega)];rfl
     ·have:=Bs x.aq i;congr 1;omega
   ·have e:i=x.aq.length:=by omega
    subst e;rw [bn (by omega),cond_false];dsimp only [Option.bind];refine .inr ⟨_,rfl,?_⟩;rw [zbC,hz])
  rw [h1,h2];rfl
end cK
end
