/- THE ABSTRACT MACHINE IS SOUND: what it computes, the program's code and calls do, in whatever memory and order. Condition: the environment is the program's. -/
import Derived.Test.YtafgdbaekppjcaaGreatDoorAmX
set_option linter.unusedSectionVars false
set_option linter.unusedVariables false
set_option linter.unusedSimpArgs false
namespace Go.Am
section
variable {P:Program} {E:Env} {hp:Nat->Bool}
theorem yf:∀ (k:Nat) (bE:List bH),(places k bE).map (·.2)=bE
 | _,[]=>rfl
 | k,o::os=>by simp only [places,za5,yf]
theorem yg {n:Nat} {r:RC} {code:Code} (h:Hint) (hG:∀ g,AV.aT 0 (E.aJ g)=true) (h1:Av P E (exec E hp (n+1)) r code) (h0:Av P E (exec E hp n) r code):
 Av P E (exec E hp (n+1)) (gT h r) code:=by
 unfold gT;split
 ·exact h1
 ·intro ρ hρ lo F c base s e s' a hfr hb hex Q hQ;simp only [exec] at hex;split at hex
  case h_2=>simp at hex
  rename_i s0 hs0;obtain ⟨d,d1,d2,d3⟩:=jm hG h.pre hfr hs0;have hb':base<=d.H.length:=d3.len hb;split at hex
  ·rename_i s1 hs1;split at hex
   case h_2=>simp at hex
   rename_i s2 yG;simp only [za1,za4] at hex;obtain ⟨rfl,rfl⟩:=hex;rw [<-d1];refine h0 ρ hρ lo F d base s0 .normal s1 a d2 hb' hs1 Q fun d' a' hd' aU=>?_
   obtain ⟨d'',e1,e2,e3⟩:=jm hG h.post hd' yG;rw [<-e1];exact hQ d'' a' e2 ((d3.trans aU).trans e3)
  ·rename_i r' hne;rw [<-d1];exact h0 ρ hρ lo F d base s0 e s' a d2 hb' hex Q fun d' a' hd' aU=>hQ d' a' hd' (d3.trans aU)
def inner (P:Program) (hs:List (Nat×Hint)):Code->RC
 | .region id ops dr=>
  if dr then xp P ((iY hs id).mid.map (·.1)) ops (ops.toList.map (aE P ops))
   else jk (iY hs id).mid (ops.toList.map (aE P ops))
 | .cond c a b=> .cond (cx c) (comp P hs a) (comp P hs b)
 | .block id b=> .block id (comp P hs b)
 | .rangeFunc g ps a b=>if ni a&&ni b then .Ay (cx g) ps.toList (comp P hs a) (comp P hs b) else .bad
 | c=>comp P hs c
theorem FO (hs:List (Nat×Hint)) (code:Code):∃ h,comp P hs code=gT h (inner P hs code):=by
 cases code with
 | region id ops dr=>exact ⟨_,rfl⟩
 | cond c a b=>exact ⟨_,rfl⟩
 | block id b=>exact ⟨_,rfl⟩
 | rangeFunc g ps a b=>exact ⟨_,rfl⟩
 | _=>exact ⟨{},rfl⟩
theorem uA {js:List Nat} {n:Nat} (ck:iJ P E) (IH:∀ hs code,Av P E (exec E hp n) (comp P hs code) code) {ops:Array Oper} {first:List bH} {l2:List Nat}
 (hf:∀ i,i < first.length->∃ h:i < ops.size,first.getD i default=aE P ops ops[i])
 (hsplit:∀ mixed τ,Ord ops ops.size (Region.schedule mixed ops τ)->∃ π,Region.schedule mixed ops τ=π++l2/\Ord ops first.length π)
 {ρ:Option Nat} {lo:Nat->Prop} {F:Nat->Prop} {c:Ctx} {base:Nat} {s:St} {e:Ex} {s':St} {a:Act} (hfr:FR lo (fo P F) E.aJ c s a) (hb:base<=c.H.length)
 (hex:exec E hp (n+1) (jv P js ops first) base s=some (e,s')) {Q:Exit->Act->World->Prop}
 (hQ:e= .normal->∀ d a',FR lo (fo P F) E.aJ d s' a'->cW base c d->wpOpsIn (wd ρ) 0 P ops Q l2 a' d.w) (τ:Nat):
 wpOpsIn (wd ρ) 0 P ops Q (Region.schedule (P.follows .mixedOrders) ops τ) a { c.w with drawn:=c.w.drawn+1 }:=by
 have hw:=hfr.sr.drawn (c.w.drawn+1);have AT:FR lo (fo P F) E.aJ { c with w:={ c.w with drawn:=c.w.drawn+1 } } s a:=hfr.hJ ck.aJ hw hfr.hH rfl;have Sc:nK ops first=true->exec E hp (n+1) (.draw first) base s=some (e,s')->wpOpsIn (wd ρ) 0 P ops Q (Region.schedule (P.follows .mixedOrders) ops τ) a { c.w with drawn:=c.w.drawn+1 }:=by
  intro vI hex;simp only [exec] at hex;split at hex
  case h_2=>simp at hex
  rename_i t' H' hr;simp only [za1,za4] at hex;obtain ⟨rfl,rfl⟩:=hex;obtain ⟨π,hπ,ho⟩:=hsplit (P.follows .mixedOrders) τ (FI vI _ _);rw [hπ];have hr':=Ql E.aJ _ ho (BM vI) hr;exact gz (c:={ c with w:={ c.w with drawn:=c.w.drawn+1 } }) ck IH (.inr rfl) ops first l2 π (fun i hi=>hf i ((ho.mem i).1 hi)) AT hb hr' fun d a' hd aU=>hQ rfl d a' hd ((hw.2.2 base).trans aU)
 unfold jv at hex;split at hex
 ·rename_i vI;simp only [za0] at vI;exact Sc vI.1 hex
 split at hex
 ·rename_i vI;simp only [za0] at vI;replace vI:=vI.1;simp only [exec] at hex;split at hex
  case h_2=>simp at hex
  rename_i t' H' hr;simp only [za1,za4] at hex;obtain ⟨rfl,rfl⟩:=hex;obtain ⟨π,hπ,ho⟩:=hsplit (P.follows .mixedOrders) τ (D5 vI _ _);rw [hπ];have hr':=Nl E.aJ hp _ _ ho (yW vI) hr;exact gz (hp:=hp) (c:={ c with w:={ c.w with drawn:=c.w.drawn+1 } }) ck IH (.inl rfl) ops first l2 π (fun i hi=>hf i ((ho.mem i).1 hi)) AT hb hr' fun d a' hd aU=>hQ rfl d a' hd ((hw.2.2 base).trans aU)
 split at hex
 ·rename_i vI;simp only [za0] at vI;exact Sc vI.1 hex
 split at hex
 ·rename_i vI;simp only [za0] at vI;replace vI:=vI.1;simp only [exec] at hex;split at hex
  case h_2=>simp at hex
  rename_i t' H' hr;simp only [za1,za4] at hex;obtain ⟨rfl,rfl⟩:=hex;obtain ⟨π,hπ,ho⟩:=hsplit (P.follows .mixedOrders) τ (D6 vI _ _);rw [hπ];have hr':=Ns ho vI hr;exact gz (hp:=hp) (c:={ c with w:={ c.w with drawn:=c.w.drawn+1 } }) ck IH (.inl rfl) ops first l2 π (fun i hi=>hf i ((ho.mem i).1 hi)) AT hb hr' fun d a' hd aU=>hQ rfl d a' hd ((hw.2.2 base).trans aU)
 ·dsimp only at hex;have hml:(pg P js ops first).length=first.length:=by
   have:first.length<=ops.size:=by
    rcases zaf ops.size first.length with h1 | h1
    ·obtain ⟨h2,_⟩:=hf ops.size h1;omega
    ·exact h1
   simp [pg];omega
  have hmg:∀ i,i < (pg P js ops first).length->∃ h:i < ops.size,(pg P js ops first)[i]?=some (qG P js ops ops[i] (aE P ops ops[i])):=by
   intro i hi;have hi1:i < first.length:=by omega
   obtain ⟨h1,h2⟩:=hf i hi1;refine ⟨h1,?_⟩;obtain ⟨h3,h4⟩:=I2 (P:=P) h1 hi1;rw [za2 h3,h4];congr 2;rw [<-h2];simp [List.getD,hi1]
  rw [<-hml] at hsplit;generalize pg P js ops first=Wl at hex hml hmg hsplit
  generalize C2 (Region.before ops).toList Wl=ps at hex;generalize Lj Wl=k at hex;have dm:=yf 0 Wl;generalize places 0 Wl=rl at hex dm;split at hex
  case isFalse=>simp [exec] at hex
  rename_i vI;simp only [exec] at hex;split at hex
  case h_2=>simp at hex
  rename_i t' H' fs hr;split at hex
  case isFalse=>simp at hex
  rename_i hps;simp only [za1,za4] at hex;obtain ⟨rfl,rfl⟩:=hex;obtain ⟨π,hπ,ho⟩:=hsplit (P.follows .mixedOrders) τ (D7 vI _ _);rw [hπ];have hlen:rl.length=Wl.length:=by have:=congrArg List.length dm;simpa using this
  obtain ⟨fs',hr'⟩:=Nt E.aJ _ (l:=rl) (by rw [hlen];exact ho) (by rw [dm];exact yX vI) hr hps;obtain ⟨d1,e1,e2,e3,e4,e5,e6⟩:=IT (G:=E.aJ) AT.sr k;have EH:FR lo (fo P F) E.aJ d1 ⟨s.tmps,s.H++List.replicate k .iA⟩ a:=⟨e3,AT.tr.hJ e4,by rw [e2,AT.hH],AT.df.oO AT.sr (e5 0),e6 AT.gl⟩;have Gj:base<=d1.H.length:=(e5 base).len hb;have Sz:({ c.w with drawn:=c.w.drawn+1 }:World)=d1.w:=e1.symm;rw [Sz];refine jX (js:=js) ck IH ops rl l2 π (fun i hi=>?_) EH Gj hr' fun d a' hd aU=>hQ rfl d a' hd (((hw.2.2 base).trans (e5 base)).trans aU)
  have hi':i < Wl.length:=(ho.mem i).1 hi;obtain ⟨h1,h2⟩:=hmg i hi';have hil:i < rl.length:=by omega
  refine ⟨h1,rl[i].1,?_⟩;have h3:(rl.map (·.2))[i]?=some (qG P js ops ops[i] (aE P ops ops[i])):=by rw [dm];exact h2
  rw [zay,za2 hil,zaL] at h3;injection h3 with h3
  simp [List.getD,hil,<-h3]
theorem I3 (ck:iJ P E) (ops:Array Oper):∀ (TN:List (Nat×List GA)) (p n:Nat),(∀ m,m < n->∀ hs code,Av P E (exec E hp m) (comp P hs code) code)->
 ∀ {ρ:Option Nat} {lo:Nat->Prop} {F:Nat->Prop} {c:Ctx} {base:Nat} {s:St} {e:Ex} {s':St} {a:Act},FR lo (fo P F) E.aJ c s a->base<=c.H.length->
 exec E hp n (jk TN ((ops.toList.map (aE P ops)).drop p)) base s=some (e,s')->∀ Q:Exit->Act->World->Prop,(∀ d a',FR lo (fo P F) E.aJ d s' a'->cW base c d->Q (sI e) a' d.w)->
 wpOpsIn (wd ρ) 0 P ops Q (List.range' p (ops.size - p)) a c.w:=by
 have aP:∀ i,i < ops.size->∃ h:i < ops.size,(ops.toList.map (aE P ops)).getD i default=aE P ops ops[i]:=fun i hi=>⟨hi,by simp [List.getD,hi]⟩
 have vG:∀ p j,p+j<=ops.size->(List.range' p j).map (fun i=>(ops.toList.map (aE P ops)).getD i default)=((ops.toList.map (aE P ops)).drop p).take j:=by
  intro p j hj;apply zb0
  ·simp;omega
  ·intro i h1 h2;simp at h1;have hi:p+i < ops.size:=by omega
   simp [List.getD,hi]
 intro TN;induction TN with
 | nil=>
  intro p n IH ρ lo F c base s e s' a hfr hb hex Q hQ
  cases n with
  | zero=>simp [exec] at hex
  | succ n=>
  simp only [jk,exec] at hex;split at hex
  case h_2=>simp at hex
  rename_i t' H' hr;simp only [za1,za4] at hex;obtain ⟨rfl,rfl⟩:=hex;rw [<-zbo (List.range' p (ops.size - p))];refine gz (hp:=hp) ck (IH n (Nat.lt_succ_self _)) (.inl rfl) ops (ops.toList.map (aE P ops)) [] (List.range' p (ops.size - p)) (fun i hi=>aP i (by simp at hi;omega)) hfr hb (t':=t') (H':=H') ?_ fun d a' hd aU=>hQ d a' hd aU
  by_cases hp':p<=ops.size
  ·rw [vG p _ (by omega),zad (by simp)];exact hr
  ·have:ops.size - p=0:=by omega
   rw [this];rw [List.drop_eq_nil_of_le (by simp;omega)] at hr;exact hr
 | cons jg r ihm=>
  obtain ⟨j,g⟩:=jg;intro p n IH ρ lo F c base s e s' a hfr hb hex Q hQ
  cases n with
  | zero=>simp [exec] at hex
  | succ n=>
  cases n with
  | zero=>simp [jk,exec] at hex
  | succ n=>
  cases n with
  | zero=>simp [jk,exec,iX] at hex
  | succ n=>
  have hj:∃ q,p+q<=max p ops.size/\((ops.toList.map (aE P ops)).drop p).take j=((ops.toList.map (aE P ops)).drop p).take q/\List.range' p (ops.size - p)=List.range' p q++List.range' (p+j) (ops.size - (p+j)):=by
   by_cases h1:p+j<=ops.size
   ·refine ⟨j,by omega,rfl,?_⟩;have:ops.size - p=j+(ops.size - (p+j)):=by omega
    rw [this,<-List.range'_append_1]
   ·refine ⟨ops.size - p,by omega,?_,?_⟩
    ·rw [zad (by simp;omega),zad (by simp)]
    ·have:ops.size - (p+j)=0:=by omega
     rw [this];simp
  obtain ⟨q,hq,Zy,Vl⟩:=hj;rw [Vl];simp only [jk] at hex;rw [Zy] at hex;have sD:(match exec E hp (n+2) (.gh [] (.u6 (((ops.toList.map (aE P ops)).drop p).take q)) g) base s with
   | some (.normal,s1)=>exec E hp (n+2) (jk r (((ops.toList.map (aE P ops)).drop p).drop j)) base s1
   | x=>x)=some (e,s'):=hex
  have hgh:exec E hp (n+2) (.gh [] (.u6 (((ops.toList.map (aE P ops)).drop p).take q)) g) base s=(match bO E.aJ hp (mU E.fns (exec E hp n)) (Aw E.fns (exec E hp n)) (((ops.toList.map (aE P ops)).drop p).take q) s.tmps s.H with
   | some (t,H)=>(match iX base g ⟨t,H⟩ with | some s2=>some (.normal,s2) | none=>none)
   | none=>none):=by
   simp only [exec,iX]
   cases bO E.aJ hp (mU E.fns (exec E hp n)) (Aw E.fns (exec E hp n)) (((ops.toList.map (aE P ops)).drop p).take q) s.tmps s.H with
   | none=>rfl
   | some x=>rfl
  rw [hgh] at sD
  cases hr:bO E.aJ hp (mU E.fns (exec E hp n)) (Aw E.fns (exec E hp n)) (((ops.toList.map (aE P ops)).drop p).take q) s.tmps s.H with
  | none=>rw [hr] at sD;simp at sD
  | some x=>
   obtain ⟨t1,H1⟩:=x;rw [hr] at sD;simp only at sD
   cases hg:iX base g ⟨t1,H1⟩ with
   | none=>rw [hg] at sD;simp at sD
   | some s2=>
    rw [hg] at sD;simp only at sD;have hr':bO E.aJ hp (mU E.fns (exec E hp n)) (Aw E.fns (exec E hp n)) ((List.range' p q).map fun i=>(ops.toList.map (aE P ops)).getD i default) s.tmps s.H=some (t1,H1):=by
     by_cases hpz:p<=ops.size
     ·rw [vG p q (by omega)];exact hr
     ·have hq0:q=0:=by omega
      subst hq0;simpa using hr
    refine gz (hp:=hp) ck (IH n (by omega)) (.inl rfl) ops (ops.toList.map (aE P ops)) (List.range' (p+j) (ops.size - (p+j))) (List.range' p q) (fun i hi=>aP i (by simp at hi;omega)) hfr hb hr' fun d a' hd aU=>?_
    obtain ⟨d2,g1,g2,g3⟩:=jm ck.aJ g hd hg;rw [<-g1];refine ihm (p+j) (n+2) (fun m hm=>IH m (by omega)) g2 ((aU.trans g3).len hb) (by rw [zbG] at sD;exact sD) Q fun d' ED hd' jI=>hQ d' ED hd' ((aU.trans g3).trans jI)
def nW (F:Fence) (P:Program) (c:Code) (Q:Exit->Act->World->Prop):Nat->Act->World->Prop
 | 0,_,_=>False
 | n+1,a,w=>c.wpIn F 0 P (Exit.then (nW F P c Q n) Q) a w
theorem tY {F:Fence} {Q:Exit->Act->World->Prop} {a:Act} {w:World} {c:Code} (n:Nat) (h:nW F P c Q n a w):(Code.loop c).wpIn F 0 P Q a w:=by
 intro b k cs hro hb hr;have key:∀ n a w,nW F P c Q n a w->
  ∃ e a' w',Q e a' w'/\ArrivesIn (Machine.fenced P F) P (lone (b.atR a (.code c:: .inLoop c::k)) cs w) b k cs e a' w':=by
  intro n;induction n with
  | zero=>intro a w h;exact h.elim
  | succ n ih=>
   intro a w h;obtain ⟨e,a₁,w₁,hq,mW⟩:=h b (.inLoop c::k) cs hro hb hr
   cases e with
   | normal=>
    obtain ⟨e₂,a₂,w₂,aeP,Zz⟩:=ih a₁ w₁ hq;exact ⟨e₂,a₂,w₂,aeP,.of_steps (StepsIn.trans mW (.one (fenced_calm hb hr rfl) stepR_inLoop)) Zz⟩
   | exit id=>exact ⟨_,a₁,w₁,hq,.pass (x:= .inLoop c) rfl (fun _ _=> .inl (by simp)) mW⟩
   | goto l=>exact ⟨_,a₁,w₁,hq,.pass (x:= .inLoop c) rfl (fun _ _=> .inl (by simp)) mW⟩
   | ret=>exact ⟨_,a₁,w₁,hq,.pass (x:= .inLoop c) rfl (fun _ _=> .inl (by simp)) mW⟩
   | panic ch=>exact ⟨_,a₁,w₁,hq,.pass (x:= .inLoop c) rfl (fun _ _=> .inl (by simp)) mW⟩
   | outgrown=>exact ⟨_,a₁,w₁,hq,.pass (x:= .inLoop c) rfl (fun _ _=> .inl (by simp)) mW⟩
 obtain ⟨e,a',w',hq,mW⟩:=key n a w h;exact ⟨e,a',w',hq,.of_steps (.one (fenced_calm hb hr rfl) stepR_loop) mW⟩
theorem D8 {b':RC} {b:Code}:∀ k,(∀ m,m < k->Av P E (exec E hp m) b' b)->∀ (ρ:Option Nat) (_:ρ=none\/ni b=true) (lo:Nat->Prop) (F:Nat->Prop) (c:Ctx) (base:Nat) (s:St) (e:Ex) (s':St) (a:Act),FR lo (fo P F) E.aJ c s a->base<=c.H.length->
 exec E hp k (.loop b') base s=some (e,s')->∀ Q:Exit->Act->World->Prop,(∀ d a',FR lo (fo P F) E.aJ d s' a'->cW base c d->Q (sI e) a' d.w)->nW (wd ρ) P b Q k a c.w:=by
 intro k;induction k with
 | zero=>intro _ ρ hρ lo F c base s e s' a _ _ hex;simp [exec] at hex
 | succ k ih=>
  intro hm ρ hρ lo F c base s e s' a hfr hb hex Q hQ;rw [nW];simp only [exec] at hex;split at hex
  ·rename_i s1 hs1;refine hm k (Nat.lt_succ_self _) ρ hρ lo F c base s .normal s1 a hfr hb hs1 _ fun d a' hd aU=>?_
   exact ih (fun m hlt=>hm m (by omega)) ρ hρ lo F d base s1 e s' a' hd (aU.len hb) hex Q fun d' ED hd' jI=>hQ d' ED hd' (aU.trans jI)
  ·rename_i r' hne;refine hm k (Nat.lt_succ_self _) ρ hρ lo F c base s e s' a hfr hb hex _ fun d a' hd aU=>?_
   cases e with
   | normal=>exact (hne s' hex).elim
   | exit id=>exact hQ d a' hd aU
   | ret=>exact hQ d a' hd aU
theorem KN {ρ:Option Nat} {x y:Bool} (h:ρ=none\/(x&&y)=true):ρ=none\/x=true:=h.imp id fun h=>by simp at h;exact h.1
theorem Sd {ρ:Option Nat} {x y:Bool} (h:ρ=none\/(x&&y)=true):ρ=none\/y=true:=h.imp id fun h=>by simp at h;exact h.2
theorem FQ (ck:iJ P E):∀ n,(∀ hs code,Av P E (exec E hp n) (inner P hs code) code)/\(∀ hs code,Av P E (exec E hp n) (comp P hs code) code):=by
 intro n;induction n using Nat.strongRecOn with
 | _ n ih=>
 cases n with
 | zero=>exact ⟨fun hs code ρ _ lo F c base s e s' a _ _ hex=>by simp [exec] at hex,fun hs code ρ _ lo F c base s e s' a _ _ hex=>by simp [exec] at hex⟩
 | succ n=>
  have hin:∀ hs code,Av P E (exec E hp (n+1)) (inner P hs code) code:=by
   intro hs code ρ hρ lo F c base s e s' a hfr hb hex Q hQ;have IH:=(ih n (Nat.lt_succ_self _)).2
   cases code with
   | skip=>
    simp only [inner,comp,exec,za1,za4] at hex;obtain ⟨rfl,rfl⟩:=hex;exact wpIn_skip (hQ c a hfr (cW.refl _ _))
   | ret=>
    simp only [inner,comp,exec,za1,za4] at hex;obtain ⟨rfl,rfl⟩:=hex;exact wpIn_ret (hQ c a hfr (cW.refl _ _))
   | exit id=>
    simp only [inner,comp,exec,za1,za4] at hex;obtain ⟨rfl,rfl⟩:=hex;exact wpIn_exit (hQ c a hfr (cW.refl _ _))
   | seq x y=>
    simp only [inner,comp,exec] at hex;refine wpIn_seq ?_;split at hex
    ·rename_i s1 hs1;refine IH hs x ρ (KN hρ) lo F c base s .normal s1 a hfr hb hs1 _ fun d a' hd aU=>?_
     exact IH hs y ρ (Sd hρ) lo F d base s1 e s' a' hd (aU.len hb) hex Q fun d' ED hd' jI=>hQ d' ED hd' (aU.trans jI)
    ·rename_i r' hne;refine IH hs x ρ (KN hρ) lo F c base s e s' a hfr hb hex _ fun d a' hd aU=>?_
     cases e with
     | normal=>exact (hne s' hex).elim
     | exit id=>exact hQ d a' hd aU
     | ret=>exact hQ d a' hd aU
   | cond x y z=>
    simp only [inner,exec] at hex;have hx:=vJ hfr.tr hfr.gl x;split at hex
    ·rename_i hbv;rw [hbv] at hx;generalize AD:a.eval x=xv at hx
     cases hx;exact wpIn_cond_true AD (IH hs y ρ (KN hρ) lo F c base s e s' a hfr hb hex Q hQ)
    ·rename_i hbv;rw [hbv] at hx;generalize AD:a.eval x=xv at hx
     cases hx;exact wpIn_cond_false AD (IH hs z ρ (Sd hρ) lo F c base s e s' a hfr hb hex Q hQ)
    ·simp at hex
   | block id x=>
    simp only [inner,exec] at hex;refine wpIn_block ?_;split at hex
    ·rename_i i s1 hs1;split at hex
     ·rename_i hi;simp only [za1,za4] at hex;obtain ⟨rfl,rfl⟩:=hex;refine IH hs x ρ hρ lo F c base s (.exit i) s1 a hfr hb hs1 _ fun d a' hd aU=>?_
      simp only [sI,Exit.inBlock,hi,if_true];exact hQ d a' hd aU
     ·rename_i hi;simp only [za1,za4] at hex;obtain ⟨rfl,rfl⟩:=hex;refine IH hs x ρ hρ lo F c base s (.exit i) s1 a hfr hb hs1 _ fun d a' hd aU=>?_
      simp only [sI,Exit.inBlock,hi,if_false];exact hQ d a' hd aU
    ·rename_i r' hne;refine IH hs x ρ hρ lo F c base s e s' a hfr hb hex _ fun d a' hd aU=>?_
     cases e with
     | normal=>exact hQ d a' hd aU
     | exit i=>exact (hne i s' hex).elim
     | ret=>exact hQ d a' hd aU
   | loop x=>
    have adQ:exec E hp (n+1) (.loop (gT (iY hs (1000000+(iQ x).getD 999999)) (comp P hs x))) base s=some (e,s'):=hex;refine tY (n+1) (D8 (n+1) (fun m hm=>?_) ρ (show ρ=none\/ni x=true from hρ) lo F c base s e s' a hfr hb adQ Q hQ)
    cases m with
    | zero=>exact fun ρ _ lo F c base s e s' a _ _ hex=>by simp [exec] at hex
    | succ m=>exact yg _ ck.aJ ((ih (m+1) hm).2 hs x) ((ih m (by omega)).2 hs x)
   | region id ops dr=>
    have hlen:(ops.toList.map (aE P ops)).length=ops.size:=by simp
    cases dr with
    | false=>
     simp only [inner,za8,if_false] at hex;refine wpIn_region ?_;have:=I3 (hp:=hp) (ρ:=ρ) ck ops (iY hs id).mid 0 (n+1) (fun m hm=>(ih m hm).2) hfr hb (by simpa using hex) Q hQ;simpa [zbU] using this
    | true=>
     simp only [inner,if_true] at hex;have aP:∀ i,i < (ops.toList.map (aE P ops)).length->∃ h:i < ops.size,(ops.toList.map (aE P ops)).getD i default=aE P ops ops[i]:=by
      intro i hi;have hi':i < ops.size:=by simpa using hi
      exact ⟨hi',by simp [List.getD,hi']⟩
     unfold xp at hex;split at hex
     ·rename_i ny;have hl:∃ k,ops.size=k+1/\∀ i,i < k->((Region.before ops).toList.getD k 0).testBit i=true:=by
       unfold Ll at ny;split at ny
       case h_2=>simp at ny
       rename_i o ho;simp only [za0,zai,zac] at ny;have hne:ops.size≠0:=by
        intro h0;have:ops.toList=[]:=by simpa using h0
        rw [this] at ho;simp at ho
       refine ⟨ops.size - 1,by omega,fun i hi=>ny.1.2 i hi⟩
      obtain ⟨k,hk,hall⟩:=hl;simp only [exec] at hex
      cases n with
      | zero=>simp [exec] at hex
      | succ n=>
      have IH2:=(ih n (by omega)).2;have hfl:(ops.toList.map (aE P ops)).dropLast.length=k:=by simp [hk]
      have hf:∀ i,i < (ops.toList.map (aE P ops)).dropLast.length->∃ h:i < ops.size,(ops.toList.map (aE P ops)).dropLast.getD i default=aE P ops ops[i]:=by
       intro i hi;obtain ⟨h1,h2⟩:=aP i (by simp at hi ⊢;omega);refine ⟨h1,?_⟩;rw [<-h2];simp only [List.getD];rw [za2 hi,List.getElem_dropLast,za2 (by simp;omega)]
      have hsplit:∀ mixed τ,Ord ops ops.size (Region.schedule mixed ops τ)->∃ π,Region.schedule mixed ops τ=π++[k]/\Ord ops (ops.toList.map (aE P ops)).dropLast.length π:=by
       intro mixed τ ho;rw [hk] at ho;rw [hfl];exact ho.last hall
      have ZA:(ops.toList.map (aE P ops)).drop (ops.size - 1)=[k].map fun i=>(ops.toList.map (aE P ops)).getD i default:=by
       have hks:k < (ops.toList.map (aE P ops)).length:=by simp;omega
       rw [hk,Nat.add_sub_cancel,List.drop_eq_getElem_cons hks,List.drop_eq_nil_of_le (by simp;omega)];simp only [za5,List.map_nil,List.getD];rw [za2 hks];rfl
      split at hex
      ·rename_i s1 hs1;refine wpIn_region_draw fun τ=>uA ck IH2 hf hsplit hfr hb hs1 (fun _ d a' hd aU=>?_) τ
       simp only [exec] at hex;split at hex
       case h_2=>simp at hex
       rename_i t' H' hr;simp only [za1,za4] at hex;obtain ⟨rfl,rfl⟩:=hex;rw [ZA] at hr;rw [<-zbo [k]];exact gz (hp:=hp) ck IH2 (.inl rfl) ops (ops.toList.map (aE P ops)) [] [k] (fun i hi=>aP i (by simp at hi;subst hi;simp;omega)) hd (aU.len hb) hr fun d' ED hd' jI=>hQ d' ED hd' (aU.trans jI)
      ·rename_i r' hne;have:e= .normal:=by
        unfold jv at hex;split at hex
        ·simp only [exec] at hex;split at hex
         ·simp only [za1,za4] at hex;exact hex.1.symm
         ·simp at hex
        split at hex
        ·simp only [exec] at hex;split at hex
         ·simp only [za1,za4] at hex;exact hex.1.symm
         ·simp at hex
        split at hex
        ·simp only [exec] at hex;split at hex
         ·simp only [za1,za4] at hex;exact hex.1.symm
         ·simp at hex
        split at hex
        ·simp only [exec] at hex;split at hex
         ·simp only [za1,za4] at hex;exact hex.1.symm
         ·simp at hex
        ·dsimp only at hex;split at hex
         ·simp only [exec] at hex;split at hex
          ·split at hex
           ·simp only [za1,za4] at hex;exact hex.1.symm
           ·simp at hex
          ·simp at hex
         ·simp [exec] at hex
       subst this;exact (hne _ hex).elim
     ·have ZB:e= .normal:=by
       unfold jv at hex;split at hex
       ·simp only [exec] at hex;split at hex
        ·simp only [za1,za4] at hex;exact hex.1.symm
        ·simp at hex
       split at hex
       ·simp only [exec] at hex;split at hex
        ·simp only [za1,za4] at hex;exact hex.1.symm
        ·simp at hex
       split at hex
       ·simp only [exec] at hex;split at hex
        ·simp only [za1,za4] at hex;exact hex.1.symm
        ·simp at hex
       split at hex
       ·simp only [exec] at hex;split at hex
        ·simp only [za1,za4] at hex;exact hex.1.symm
        ·simp at hex
       ·dsimp only at hex;split at hex
        ·simp only [exec] at hex;split at hex
         ·split at hex
          ·simp only [za1,za4] at hex;exact hex.1.symm
          ·simp at hex
         ·simp at hex
        ·simp [exec] at hex
      subst ZB;refine wpIn_region_draw fun τ=>uA (l2:=[]) ck IH aP (fun mixed τ ho=>⟨_,by rw [zbo],by rw [hlen];exact ho⟩) hfr hb hex (fun _ d a' hd aU=>hQ d a' hd aU) τ
   | rangeFunc g ps x y=>
    have hnone:ρ=none:=by
     rcases hρ with h | h
     ·exact h
     ·simp [ni] at h
    subst hnone;simp only [inner] at hex;split at hex
    case isFalse=>simp [exec] at hex
    rename_i hnr;rw [za0] at hnr;simp only [exec] at hex;split at hex
    case h_2=>simp at hex
    rename_i f cap hg;split at hex
    case h_2=>simp at hex
    rename_i u H1 hr;split at hex
    case h_2=>simp at hex
    rename_i e1 he;simp only [za1,za4] at hex;obtain ⟨rfl,rfl⟩:=hex;exact IA ck IH hnr.1 hnr.2 hfr hb hg hr he hQ
   | _=>simp [inner,comp,exec] at hex
  refine ⟨hin,fun hs code=>?_⟩;obtain ⟨h,he⟩:=FO (P:=P) hs code;rw [he];exact yg h ck.aJ (hin hs code) ((ih n (Nat.lt_succ_self _)).1 hs code)
def Pu (E:Env) (hp:Nat->Bool) (f:Nat) (xs:List AV) (r:AV):Prop:=∃ n,mU E.fns (exec E hp n) f xs=some r
theorem Pu.calls (ck:iJ P E) {f:Nat} {xs:List AV} {r:AV} (h:Pu E hp f xs r) {c:Ctx} (hO:∀ b,¬ c.O b) (hH:c.H=[]) (B4:gY c E.aJ)
 {vs:List Value} (hl:vs.length=xs.length) (hv:∀ i (hi:i < xs.length) (hj:i < vs.length),V c xs[i] vs[i]):
 Calls P f vs.toArray c.w fun e w'=>∃ v,e= .returned v/\(c.w.heap.size<=w'.heap.size/\dx c.w w')/\(∀ b,b < c.w.heap.size->w'.heap[b]?=c.w.heap[b]?)/\r.bp 0=true/\
  ∀ c':Ctx,c'.w=w'->(∀ b,¬ c'.O b)->V c' r v:=by
 obtain ⟨n,hn⟩:=h;have lX:SR (fo P fun _=>False) c:=by
  refine ⟨⟨fun id nl sz es h1=>by rw [hH] at h1;simp at h1,fun id id' _ _ _ _ _ _ h1=>by rw [hH] at h1;simp at h1⟩,fun b=>⟨fun h=>(hO b h).elim,fun h=>h.elim (fun h=>h.elim) ?_⟩,fun b h=>h.elim,fun b _ h=>h,.nil hH⟩;rintro ⟨id,nl,sz,es,h1,_⟩;rw [hH] at h1;simp at h1
 refine (xH ck (FQ ck n).2 hn lX hH B4 hl hv).mono ?_;rintro e w' ⟨v,rfl,h1,h2,h3,h4⟩;exact ⟨v,rfl,h1,h2,h3,fun c' hw hO'=>h4 c' hw fun b hb=>(hO' b hb).elim⟩
end
end Go.Am
