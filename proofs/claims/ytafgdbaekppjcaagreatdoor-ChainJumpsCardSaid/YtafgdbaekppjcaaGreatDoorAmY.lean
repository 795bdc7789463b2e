/- THE ABSTRACT MACHINE IS SOUND: what it computes, the program's code and calls do, in whatever memory and order. Condition: the environment is the program's. -/
import Derived.Test.YtafgdbaekppjcaaGreatDoorAmX
set_option linter.unusedSectionVars false
set_option linter.unusedVariables false
set_option linter.unusedSimpArgs false
namespace Go.Am
section
variable {P:Program} {E:Env} {hp:Nat->Bool}
theorem yq:∀ (k:Nat) (bE:List bH),(places k bE).map (·.2)=bE
 | _,[]=>rfl
 | k,o::os=>by simp only [places,za5,yq]
theorem yu {n:Nat} {r:RC} {code:Code} (h:Hint) (hG:∀ g,AV.aR 0 (E.aF g)=true) (h1:AQ P E (exec E hp (n+1)) r code) (h0:AQ P E (exec E hp n) r code):
 AQ P E (exec E hp (n+1)) (gP h r) code:=by
 unfold gP;split
 ·exact h1
 ·intro ρ hρ lo F c base s e s' a hfr hb hex Q hQ;simp only [exec] at hex;split at hex
  case h_2=>simp at hex
  rename_i s0 hs0;obtain ⟨d,d1,d2,d3⟩:=jl hG h.pre hfr hs0;have hb':base<=d.H.length:=d3.len hb;split at hex
  ·rename_i s1 hs1;split at hex
   case h_2=>simp at hex
   rename_i s2 yP;simp only [za2,za4] at hex;obtain ⟨rfl,rfl⟩:=hex;rw [<-d1];refine h0 ρ hρ lo F d base s0 .normal s1 a d2 hb' hs1 Q fun d' a' hd' aU=>?_
   obtain ⟨d'',e1,e2,e3⟩:=jl hG h.post hd' yP;rw [<-e1];exact hQ d'' a' e2 ((d3.trans aU).trans e3)
  ·rename_i r' hne;rw [<-d1];exact h0 ρ hρ lo F d base s0 e s' a d2 hb' hex Q fun d' a' hd' aU=>hQ d' a' hd' (d3.trans aU)
def inner (P:Program) (hs:List (Nat×Hint)):Code->RC
 | .region id ops dr=>
  if dr then xy P ((iY hs id).mid.map (·.1)) ops (ops.toList.map (aB P ops))
   else jj (iY hs id).mid (ops.toList.map (aB P ops))
 | .cond c a b=> .cond (cx c) (comp P hs a) (comp P hs b)
 | .block id b=> .block id (comp P hs b)
 | .rangeFunc g ps a b=>if nj a&&nj b then .AT (cx g) ps.toList (comp P hs a) (comp P hs b) else .bad
 | c=>comp P hs c
theorem GZ (hs:List (Nat×Hint)) (code:Code):∃ h,comp P hs code=gP h (inner P hs code):=by
 cases code with
 | region id ops dr=>exact ⟨_,rfl⟩
 | cond c a b=>exact ⟨_,rfl⟩
 | block id b=>exact ⟨_,rfl⟩
 | rangeFunc g ps a b=>exact ⟨_,rfl⟩
 | _=>exact ⟨{},rfl⟩
theorem uB {js:List Nat} {n:Nat} (b7:iH P E) (IH:∀ hs code,AQ P E (exec E hp n) (comp P hs code) code) {ops:Array Oper} {first:List bH} {l2:List Nat}
 (hf:∀ i,i < first.length->∃ h:i < ops.size,first.getD i default=aB P ops ops[i])
 (hsplit:∀ mixed τ,Ord ops ops.size (Region.schedule mixed ops τ)->∃ π,Region.schedule mixed ops τ=π++l2/\Ord ops first.length π)
 {ρ:Option Nat} {lo:Nat->Prop} {F:Nat->Prop} {c:Ctx} {base:Nat} {s:St} {e:Ex} {s':St} {a:Act} (hfr:FR lo (fo P F) E.aF c s a) (hb:base<=c.H.length)
 (hex:exec E hp (n+1) (jt P js ops first) base s=some (e,s')) {Q:Exit->Act->World->Prop}
 (hQ:e= .normal->∀ d a',FR lo (fo P F) E.aF d s' a'->cK base c d->wpOpsIn (wd ρ) 0 P ops Q l2 a' d.w) (τ:Nat):
 wpOpsIn (wd ρ) 0 P ops Q (Region.schedule (P.follows .mixedOrders) ops τ) a { c.w with drawn:=c.w.drawn+1 }:=by
 have hw:=hfr.sr.drawn (c.w.drawn+1);have Bm:FR lo (fo P F) E.aF { c with w:={ c.w with drawn:=c.w.drawn+1 } } s a:=hfr.hY b7.aF hw hfr.hH rfl;have Uf:nJ ops first=true->exec E hp (n+1) (.draw first) base s=some (e,s')->wpOpsIn (wd ρ) 0 P ops Q (Region.schedule (P.follows .mixedOrders) ops τ) a { c.w with drawn:=c.w.drawn+1 }:=by
  intro vK hex;simp only [exec] at hex;split at hex
  case h_2=>simp at hex
  rename_i t' H' hr;simp only [za2,za4] at hex;obtain ⟨rfl,rfl⟩:=hex;obtain ⟨π,hπ,ho⟩:=hsplit (P.follows .mixedOrders) τ (GN vK _ _);rw [hπ];have hr':=Ss E.aF _ ho (Cm vK) hr;exact gp (c:={ c with w:={ c.w with drawn:=c.w.drawn+1 } }) b7 IH (.inr rfl) ops first l2 π (fun i hi=>hf i ((ho.mem i).1 hi)) Bm hb hr' fun d a' hd aU=>hQ rfl d a' hd ((hw.2.2 base).trans aU)
 unfold jt at hex;split at hex
 ·rename_i vK;simp only [za0] at vK;exact Uf vK.1 hex
 split at hex
 ·rename_i vK;simp only [za0] at vK;replace vK:=vK.1;simp only [exec] at hex;split at hex
  case h_2=>simp at hex
  rename_i t' H' hr;simp only [za2,za4] at hex;obtain ⟨rfl,rfl⟩:=hex;obtain ⟨π,hπ,ho⟩:=hsplit (P.follows .mixedOrders) τ (EZ vK _ _);rw [hπ];have hr':=Px E.aF hp _ _ ho (ze vK) hr;exact gp (hp:=hp) (c:={ c with w:={ c.w with drawn:=c.w.drawn+1 } }) b7 IH (.inl rfl) ops first l2 π (fun i hi=>hf i ((ho.mem i).1 hi)) Bm hb hr' fun d a' hd aU=>hQ rfl d a' hd ((hw.2.2 base).trans aU)
 split at hex
 ·rename_i vK;simp only [za0] at vK;exact Uf vK.1 hex
 split at hex
 ·rename_i vK;simp only [za0] at vK;replace vK:=vK.1;simp only [exec] at hex;split at hex
  case h_2=>simp at hex
  rename_i t' H' hr;simp only [za2,za4] at hex;obtain ⟨rfl,rfl⟩:=hex;obtain ⟨π,hπ,ho⟩:=hsplit (P.follows .mixedOrders) τ (E1 vK _ _);rw [hπ];have hr':=PE ho vK hr;exact gp (hp:=hp) (c:={ c with w:={ c.w with drawn:=c.w.drawn+1 } }) b7 IH (.inl rfl) ops first l2 π (fun i hi=>hf i ((ho.mem i).1 hi)) Bm hb hr' fun d a' hd aU=>hQ rfl d a' hd ((hw.2.2 base).trans aU)
 ·dsimp only at hex;have hml:(pB P js ops first).length=first.length:=by
   have:first.length<=ops.size:=by
    rcases zak ops.size first.length with h1 | h1
    ·obtain ⟨h2,_⟩:=hf ops.size h1;omega
    ·exact h1
   simp [pB];omega
  have hmg:∀ i,i < (pB P js ops first).length->∃ h:i < ops.size,(pB P js ops first)[i]?=some (qO P js ops ops[i] (aB P ops ops[i])):=by
   intro i hi;have hi1:i < first.length:=by omega
   obtain ⟨h1,h2⟩:=hf i hi1;refine ⟨h1,?_⟩;obtain ⟨h3,h4⟩:=Kk (P:=P) h1 hi1;rw [za1 h3,h4];congr 2;rw [<-h2];simp [List.getD,hi1]
  rw [<-hml] at hsplit;generalize pB P js ops first=Yl at hex hml hmg hsplit
  generalize DE (Region.before ops).toList Yl=ps at hex;generalize MR Yl=k at hex;have dg:=yq 0 Yl;generalize places 0 Yl=rl at hex dg;split at hex
  case isFalse=>simp [exec] at hex
  rename_i vK;simp only [exec] at hex;split at hex
  case h_2=>simp at hex
  rename_i t' H' fs hr;split at hex
  case isFalse=>simp at hex
  rename_i hps;simp only [za2,za4] at hex;obtain ⟨rfl,rfl⟩:=hex;obtain ⟨π,hπ,ho⟩:=hsplit (P.follows .mixedOrders) τ (E2 vK _ _);rw [hπ];have hlen:rl.length=Yl.length:=by have:=congrArg List.length dg;simpa using this
  obtain ⟨fs',hr'⟩:=PF E.aF _ (l:=rl) (by rw [hlen];exact ho) (by rw [dg];exact zf vK) hr hps;obtain ⟨d1,e1,e2,e3,e4,e5,e6⟩:=Ka (G:=E.aF) Bm.sr k;have FC:FR lo (fo P F) E.aF d1 ⟨s.tmps,s.H++List.replicate k .ew⟩ a:=⟨e3,Bm.tr.hY e4,by rw [e2,Bm.hH],Bm.df.oQ Bm.sr (e5 0),e6 Bm.gl⟩;have HC:base<=d1.H.length:=(e5 base).len hb;have UA:({ c.w with drawn:=c.w.drawn+1 }:World)=d1.w:=e1.symm;rw [UA];refine j9 (js:=js) b7 IH ops rl l2 π (fun i hi=>?_) FC HC hr' fun d a' hd aU=>hQ rfl d a' hd (((hw.2.2 base).trans (e5 base)).trans aU)
  have hi':i < Yl.length:=(ho.mem i).1 hi;obtain ⟨h1,h2⟩:=hmg i hi';have hil:i < rl.length:=by omega
  refine ⟨h1,rl[i].1,?_⟩;have h3:(rl.map (·.2))[i]?=some (qO P js ops ops[i] (aB P ops ops[i])):=by rw [dg];exact h2
  rw [zav,za1 hil,zaN] at h3;injection h3 with h3
  simp [List.getD,hil,<-h3]
theorem Kl (b7:iH P E) (ops:Array Oper):∀ (VO:List (Nat×List GA)) (p n:Nat),(∀ m,m < n->∀ hs code,AQ P E (exec E hp m) (comp P hs code) code)->
 ∀ {ρ:Option Nat} {lo:Nat->Prop} {F:Nat->Prop} {c:Ctx} {base:Nat} {s:St} {e:Ex} {s':St} {a:Act},FR lo (fo P F) E.aF c s a->base<=c.H.length->
 exec E hp n (jj VO ((ops.toList.map (aB P ops)).drop p)) base s=some (e,s')->∀ Q:Exit->Act->World->Prop,(∀ d a',FR lo (fo P F) E.aF d s' a'->cK base c d->Q (sM e) a' d.w)->
 wpOpsIn (wd ρ) 0 P ops Q (List.range' p (ops.size - p)) a c.w:=by
 have aL:∀ i,i < ops.size->∃ h:i < ops.size,(ops.toList.map (aB P ops)).getD i default=aB P ops ops[i]:=fun i hi=>⟨hi,by simp [List.getD,hi]⟩
 have uL:∀ p j,p+j<=ops.size->(List.range' p j).map (fun i=>(ops.toList.map (aB P ops)).getD i default)=((ops.toList.map (aB P ops)).drop p).take j:=by
  intro p j hj;apply zb4
  ·simp;omega
  ·intro i h1 h2;simp at h1;have hi:p+i < ops.size:=by omega
   simp [List.getD,hi]
 intro VO;induction VO with
 | nil=>
  intro p n IH ρ lo F c base s e s' a hfr hb hex Q hQ
  cases n with
  | zero=>simp [exec] at hex
  | succ n=>
  simp only [jj,exec] at hex;split at hex
  case h_2=>simp at hex
  rename_i t' H' hr;simp only [za2,za4] at hex;obtain ⟨rfl,rfl⟩:=hex;rw [<-zbm (List.range' p (ops.size - p))];refine gp (hp:=hp) b7 (IH n (Nat.lt_succ_self _)) (.inl rfl) ops (ops.toList.map (aB P ops)) [] (List.range' p (ops.size - p)) (fun i hi=>aL i (by simp at hi;omega)) hfr hb (t':=t') (H':=H') ?_ fun d a' hd aU=>hQ d a' hd aU
  by_cases hp':p<=ops.size
  ·rw [uL p _ (by omega),zah (by simp)];exact hr
  ·have:ops.size - p=0:=by omega
   rw [this];rw [List.drop_eq_nil_of_le (by simp;omega)] at hr;exact hr
 | cons jg r ihm=>
  obtain ⟨j,g⟩:=jg;intro p n IH ρ lo F c base s e s' a hfr hb hex Q hQ
  cases n with
  | zero=>simp [exec] at hex
  | succ n=>
  cases n with
  | zero=>simp [jj,exec] at hex
  | succ n=>
  cases n with
  | zero=>simp [jj,exec,iX] at hex
  | succ n=>
  have hj:∃ q,p+q<=max p ops.size/\((ops.toList.map (aB P ops)).drop p).take j=((ops.toList.map (aB P ops)).drop p).take q/\List.range' p (ops.size - p)=List.range' p q++List.range' (p+j) (ops.size - (p+j)):=by
   by_cases h1:p+j<=ops.size
   ·refine ⟨j,by omega,rfl,?_⟩;have:ops.size - p=j+(ops.size - (p+j)):=by omega
    rw [this,<-List.range'_append_1]
   ·refine ⟨ops.size - p,by omega,?_,?_⟩
    ·rw [zah (by simp;omega),zah (by simp)]
    ·have:ops.size - (p+j)=0:=by omega
     rw [this];simp
  obtain ⟨q,hq,abv,Xs⟩:=hj;rw [Xs];simp only [jj] at hex;rw [abv] at hex;have sK:(match exec E hp (n+2) (.gh [] (.u5 (((ops.toList.map (aB P ops)).drop p).take q)) g) base s with
   | some (.normal,s1)=>exec E hp (n+2) (jj r (((ops.toList.map (aB P ops)).drop p).drop j)) base s1
   | x=>x)=some (e,s'):=hex
  have hgh:exec E hp (n+2) (.gh [] (.u5 (((ops.toList.map (aB P ops)).drop p).take q)) g) base s=(match bP E.aF hp (m6 E.fns (exec E hp n)) (AR E.fns (exec E hp n)) (((ops.toList.map (aB P ops)).drop p).take q) s.tmps s.H with
   | some (t,H)=>(match iX base g ⟨t,H⟩ with | some s2=>some (.normal,s2) | none=>none)
   | none=>none):=by
   simp only [exec,iX]
   cases bP E.aF hp (m6 E.fns (exec E hp n)) (AR E.fns (exec E hp n)) (((ops.toList.map (aB P ops)).drop p).take q) s.tmps s.H with
   | none=>rfl
   | some x=>rfl
  rw [hgh] at sK
  cases hr:bP E.aF hp (m6 E.fns (exec E hp n)) (AR E.fns (exec E hp n)) (((ops.toList.map (aB P ops)).drop p).take q) s.tmps s.H with
  | none=>rw [hr] at sK;simp at sK
  | some x=>
   obtain ⟨t1,H1⟩:=x;rw [hr] at sK;simp only at sK
   cases hg:iX base g ⟨t1,H1⟩ with
   | none=>rw [hg] at sK;simp at sK
   | some s2=>
    rw [hg] at sK;simp only at sK;have hr':bP E.aF hp (m6 E.fns (exec E hp n)) (AR E.fns (exec E hp n)) ((List.range' p q).map fun i=>(ops.toList.map (aB P ops)).getD i default) s.tmps s.H=some (t1,H1):=by
     by_cases hpz:p<=ops.size
     ·rw [uL p q (by omega)];exact hr
     ·have hq0:q=0:=by omega
      subst hq0;simpa using hr
    refine gp (hp:=hp) b7 (IH n (by omega)) (.inl rfl) ops (ops.toList.map (aB P ops)) (List.range' (p+j) (ops.size - (p+j))) (List.range' p q) (fun i hi=>aL i (by simp at hi;omega)) hfr hb hr' fun d a' hd aU=>?_
    obtain ⟨d2,g1,g2,g3⟩:=jl b7.aF g hd hg;rw [<-g1];refine ihm (p+j) (n+2) (fun m hm=>IH m (by omega)) g2 ((aU.trans g3).len hb) (by rw [zbP] at sK;exact sK) Q fun d' FA hd' jJ=>hQ d' FA hd' ((aU.trans g3).trans jJ)
def nW (F:Fence) (P:Program) (c:Code) (Q:Exit->Act->World->Prop):Nat->Act->World->Prop
 | 0,_,_=>False
 | n+1,a,w=>c.wpIn F 0 P (Exit.then (nW F P c Q n) Q) a w
theorem ua {F:Fence} {Q:Exit->Act->World->Prop} {a:Act} {w:World} {c:Code} (n:Nat) (h:nW F P c Q n a w):(Code.loop c).wpIn F 0 P Q a w:=by
 intro b k cs hro hb hr;have key:∀ n a w,nW F P c Q n a w->
  ∃ e a' w',Q e a' w'/\ArrivesIn (Machine.fenced P F) P (lone (b.atR a (.code c:: .inLoop c::k)) cs w) b k cs e a' w':=by
  intro n;induction n with
  | zero=>intro a w h;exact h.elim
  | succ n ih=>
   intro a w h;obtain ⟨e,a₁,w₁,hq,m7⟩:=h b (.inLoop c::k) cs hro hb hr
   cases e with
   | normal=>
    obtain ⟨e₂,a₂,w₂,ae9,abw⟩:=ih a₁ w₁ hq;exact ⟨e₂,a₂,w₂,ae9,.of_steps (StepsIn.trans m7 (.one (fenced_calm hb hr rfl) stepR_inLoop)) abw⟩
   | exit id=>exact ⟨_,a₁,w₁,hq,.pass (x:= .inLoop c) rfl (fun _ _=> .inl (by simp)) m7⟩
   | goto l=>exact ⟨_,a₁,w₁,hq,.pass (x:= .inLoop c) rfl (fun _ _=> .inl (by simp)) m7⟩
   | ret=>exact ⟨_,a₁,w₁,hq,.pass (x:= .inLoop c) rfl (fun _ _=> .inl (by simp)) m7⟩
   | panic ch=>exact ⟨_,a₁,w₁,hq,.pass (x:= .inLoop c) rfl (fun _ _=> .inl (by simp)) m7⟩
   | outgrown=>exact ⟨_,a₁,w₁,hq,.pass (x:= .inLoop c) rfl (fun _ _=> .inl (by simp)) m7⟩
 obtain ⟨e,a',w',hq,m7⟩:=key n a w h;exact ⟨e,a',w',hq,.of_steps (.one (fenced_calm hb hr rfl) stepR_loop) m7⟩
theorem E3 {b':RC} {b:Code}:∀ k,(∀ m,m < k->AQ P E (exec E hp m) b' b)->∀ (ρ:Option Nat) (_:ρ=none\/nj b=true) (lo:Nat->Prop) (F:Nat->Prop) (c:Ctx) (base:Nat) (s:St) (e:Ex) (s':St) (a:Act),FR lo (fo P F) E.aF c s a->base<=c.H.length->
 exec E hp k (.loop b') base s=some (e,s')->∀ Q:Exit->Act->World->Prop,(∀ d a',FR lo (fo P F) E.aF d s' a'->cK base c d->Q (sM e) a' d.w)->nW (wd ρ) P b Q k a c.w:=by
 intro k;induction k with
 | zero=>intro _ ρ hρ lo F c base s e s' a _ _ hex;simp [exec] at hex
 | succ k ih=>
  intro hm ρ hρ lo F c base s e s' a hfr hb hex Q hQ;rw [nW];simp only [exec] at hex;split at hex
  ·rename_i s1 hs1;refine hm k (Nat.lt_succ_self _) ρ hρ lo F c base s .normal s1 a hfr hb hs1 _ fun d a' hd aU=>?_
   exact ih (fun m hlt=>hm m (by omega)) ρ hρ lo F d base s1 e s' a' hd (aU.len hb) hex Q fun d' FA hd' jJ=>hQ d' FA hd' (aU.trans jJ)
  ·rename_i r' hne;refine hm k (Nat.lt_succ_self _) ρ hρ lo F c base s e s' a hfr hb hex _ fun d a' hd aU=>?_
   cases e with
   | normal=>exact (hne s' hex).elim
   | exit id=>exact hQ d a' hd aU
   | ret=>exact hQ d a' hd aU
theorem Mn {ρ:Option Nat} {x y:Bool} (h:ρ=none\/(x&&y)=true):ρ=none\/x=true:=h.imp id fun h=>by simp at h;exact h.1
theorem Ug {ρ:Option Nat} {x y:Bool} (h:ρ=none\/(x&&y)=true):ρ=none\/y=true:=h.imp id fun h=>by simp at h;exact h.2
theorem G1 (b7:iH P E):∀ n,(∀ hs code,AQ P E (exec E hp n) (inner P hs code) code)/\(∀ hs code,AQ P E (exec E hp n) (comp P hs code) code):=by
 intro n;induction n using Nat.strongRecOn with
 | _ n ih=>
 cases n with
 | zero=>exact ⟨fun hs code ρ _ lo F c base s e s' a _ _ hex=>by simp [exec] at hex,fun hs code ρ _ lo F c base s e s' a _ _ hex=>by simp [exec] at hex⟩
 | succ n=>
  have hin:∀ hs code,AQ P E (exec E hp (n+1)) (inner P hs code) code:=by
   intro hs code ρ hρ lo F c base s e s' a hfr hb hex Q hQ;have IH:=(ih n (Nat.lt_succ_self _)).2
   cases code with
   | skip=>
    simp only [inner,comp,exec,za2,za4] at hex;obtain ⟨rfl,rfl⟩:=hex;exact wpIn_skip (hQ c a hfr (cK.refl _ _))
   | ret=>
    simp only [inner,comp,exec,za2,za4] at hex;obtain ⟨rfl,rfl⟩:=hex;exact wpIn_ret (hQ c a hfr (cK.refl _ _))
   | exit id=>
    simp only [inner,comp,exec,za2,za4] at hex;obtain ⟨rfl,rfl⟩:=hex;exact wpIn_exit (hQ c a hfr (cK.refl _ _))
   | seq x y=>
    simp only [inner,comp,exec] at hex;refine wpIn_seq ?_;split at hex
    ·rename_i s1 hs1;refine IH hs x ρ (Mn hρ) lo F c base s .normal s1 a hfr hb hs1 _ fun d a' hd aU=>?_
     exact IH hs y ρ (Ug hρ) lo F d base s1 e s' a' hd (aU.len hb) hex Q fun d' FA hd' jJ=>hQ d' FA hd' (aU.trans jJ)
    ·rename_i r' hne;refine IH hs x ρ (Mn hρ) lo F c base s e s' a hfr hb hex _ fun d a' hd aU=>?_
     cases e with
     | normal=>exact (hne s' hex).elim
     | exit id=>exact hQ d a' hd aU
     | ret=>exact hQ d a' hd aU
   | cond x y z=>
    simp only [inner,exec] at hex;have hx:=vL hfr.tr hfr.gl x;split at hex
    ·rename_i hbv;rw [hbv] at hx;generalize AY:a.eval x=xv at hx
     cases hx;exact wpIn_cond_true AY (IH hs y ρ (Mn hρ) lo F c base s e s' a hfr hb hex Q hQ)
    ·rename_i hbv;rw [hbv] at hx;generalize AY:a.eval x=xv at hx
     cases hx;exact wpIn_cond_false AY (IH hs z ρ (Ug hρ) lo F c base s e s' a hfr hb hex Q hQ)
    ·simp at hex
   | block id x=>
    simp only [inner,exec] at hex;refine wpIn_block ?_;split at hex
    ·rename_i i s1 hs1;split at hex
     ·rename_i hi;simp only [za2,za4] at hex;obtain ⟨rfl,rfl⟩:=hex;refine IH hs x ρ hρ lo F c base s (.exit i) s1 a hfr hb hs1 _ fun d a' hd aU=>?_
      simp only [sM,Exit.inBlock,hi,if_true];exact hQ d a' hd aU
     ·rename_i hi;simp only [za2,za4] at hex;obtain ⟨rfl,rfl⟩:=hex;refine IH hs x ρ hρ lo F c base s (.exit i) s1 a hfr hb hs1 _ fun d a' hd aU=>?_
      simp only [sM,Exit.inBlock,hi,if_false];exact hQ d a' hd aU
    ·rename_i r' hne;refine IH hs x ρ hρ lo F c base s e s' a hfr hb hex _ fun d a' hd aU=>?_
     cases e with
     | normal=>exact hQ d a' hd aU
     | exit i=>exact (hne i s' hex).elim
     | ret=>exact hQ d a' hd aU
   | loop x=>
    have aeC:exec E hp (n+1) (.loop (gP (iY hs (1000000+(iP x).getD 999999)) (comp P hs x))) base s=some (e,s'):=hex;refine ua (n+1) (E3 (n+1) (fun m hm=>?_) ρ (show ρ=none\/nj x=true from hρ) lo F c base s e s' a hfr hb aeC Q hQ)
    cases m with
    | zero=>exact fun ρ _ lo F c base s e s' a _ _ hex=>by simp [exec] at hex
    | succ m=>exact yu _ b7.aF ((ih (m+1) hm).2 hs x) ((ih m (by omega)).2 hs x)
   | region id ops dr=>
    have hlen:(ops.toList.map (aB P ops)).length=ops.size:=by simp
    cases dr with
    | false=>
     simp only [inner,za9,if_false] at hex;refine wpIn_region ?_;have:=Kl (hp:=hp) (ρ:=ρ) b7 ops (iY hs id).mid 0 (n+1) (fun m hm=>(ih m hm).2) hfr hb (by simpa using hex) Q hQ;simpa [zbX] using this
    | true=>
     simp only [inner,if_true] at hex;have aL:∀ i,i < (ops.toList.map (aB P ops)).length->∃ h:i < ops.size,(ops.toList.map (aB P ops)).getD i default=aB P ops ops[i]:=by
      intro i hi;have hi':i < ops.size:=by simpa using hi
      exact ⟨hi',by simp [List.getD,hi']⟩
     unfold xy at hex;split at hex
     ·rename_i nA;have hl:∃ k,ops.size=k+1/\∀ i,i < k->((Region.before ops).toList.getD k 0).testBit i=true:=by
       unfold MS at nA;split at nA
       case h_2=>simp at nA
       rename_i o ho;simp only [za0,zaf,zac] at nA;have hne:ops.size≠0:=by
        intro h0;have:ops.toList=[]:=by simpa using h0
        rw [this] at ho;simp at ho
       refine ⟨ops.size - 1,by omega,fun i hi=>nA.1.2 i hi⟩
      obtain ⟨k,hk,hall⟩:=hl;simp only [exec] at hex
      cases n with
      | zero=>simp [exec] at hex
      | succ n=>
      have IH2:=(ih n (by omega)).2;have hfl:(ops.toList.map (aB P ops)).dropLast.length=k:=by simp [hk]
      have hf:∀ i,i < (ops.toList.map (aB P ops)).dropLast.length->∃ h:i < ops.size,(ops.toList.map (aB P ops)).dropLast.getD i default=aB P ops ops[i]:=by
       intro i hi;obtain ⟨h1,h2⟩:=aL i (by simp at hi ⊢;omega);refine ⟨h1,?_⟩;rw [<-h2];simp only [List.getD];rw [za1 hi,List.getElem_dropLast,za1 (by simp;omega)]
      have hsplit:∀ mixed τ,Ord ops ops.size (Region.schedule mixed ops τ)->∃ π,Region.schedule mixed ops τ=π++[k]/\Ord ops (ops.toList.map (aB P ops)).dropLast.length π:=by
       intro mixed τ ho;rw [hk] at ho;rw [hfl];exact ho.last hall
      have abx:(ops.toList.map (aB P ops)).drop (ops.size - 1)=[k].map fun i=>(ops.toList.map (aB P ops)).getD i default:=by
       have hks:k < (ops.toList.map (aB P ops)).length:=by simp;omega
       rw [hk,Nat.add_sub_cancel,List.drop_eq_getElem_cons hks,List.drop_eq_nil_of_le (by simp;omega)];simp only [za5,List.map_nil,List.getD];rw [za1 hks];rfl
      split at hex
      ·rename_i s1 hs1;refine wpIn_region_draw fun τ=>uB b7 IH2 hf hsplit hfr hb hs1 (fun _ d a' hd aU=>?_) τ
       simp only [exec] at hex;split at hex
       case h_2=>simp at hex
       rename_i t' H' hr;simp only [za2,za4] at hex;obtain ⟨rfl,rfl⟩:=hex;rw [abx] at hr;rw [<-zbm [k]];exact gp (hp:=hp) b7 IH2 (.inl rfl) ops (ops.toList.map (aB P ops)) [] [k] (fun i hi=>aL i (by simp at hi;subst hi;simp;omega)) hd (aU.len hb) hr fun d' FA hd' jJ=>hQ d' FA hd' (aU.trans jJ)
      ·rename_i r' hne;have:e= .normal:=by
        unfold jt at hex;split at hex
        ·simp only [exec] at hex;split at hex
         ·simp only [za2,za4] at hex;exact hex.1.symm
         ·simp at hex
        split at hex
        ·simp only [exec] at hex;split at hex
         ·simp only [za2,za4] at hex;exact hex.1.symm
         ·simp at hex
        split at hex
        ·simp only [exec] at hex;split at hex
         ·simp only [za2,za4] at hex;exact hex.1.symm
         ·simp at hex
        split at hex
        ·simp only [exec] at hex;split at hex
         ·simp only [za2,za4] at hex;exact hex.1.symm
         ·simp at hex
        ·dsimp only at hex;split at hex
         ·simp only [exec] at hex;split at hex
          ·split at hex
           ·simp only [za2,za4] at hex;exact hex.1.symm
           ·simp at hex
          ·simp at hex
         ·simp [exec] at hex
       subst this;exact (hne _ hex).elim
     ·have aby:e= .normal:=by
       unfold jt at hex;split at hex
       ·simp only [exec] at hex;split at hex
        ·simp only [za2,za4] at hex;exact hex.1.symm
        ·simp at hex
       split at hex
       ·simp only [exec] at hex;split at hex
        ·simp only [za2,za4] at hex;exact hex.1.symm
        ·simp at hex
       split at hex
       ·simp only [exec] at hex;split at hex
        ·simp only [za2,za4] at hex;exact hex.1.symm
        ·simp at hex
       split at hex
       ·simp only [exec] at hex;split at hex
        ·simp only [za2,za4] at hex;exact hex.1.symm
        ·simp at hex
       ·dsimp only at hex;split at hex
        ·simp only [exec] at hex;split at hex
         ·split at hex
          ·simp only [za2,za4] at hex;exact hex.1.symm
          ·simp at hex
         ·simp at hex
        ·simp [exec] at hex
      subst aby;refine wpIn_region_draw fun τ=>uB (l2:=[]) b7 IH aL (fun mixed τ ho=>⟨_,by rw [zbm],by rw [hlen];exact ho⟩) hfr hb hex (fun _ d a' hd aU=>hQ d a' hd aU) τ
   | rangeFunc g ps x y=>
    have hnone:ρ=none:=by
     rcases hρ with h | h
     ·exact h
     ·simp [nj] at h
    subst hnone;simp only [inner] at hex;split at hex
    case isFalse=>simp [exec] at hex
    rename_i hnr;rw [za0] at hnr;simp only [exec] at hex;split at hex
    case h_2=>simp at hex
    rename_i f cap hg;split at hex
    case h_2=>simp at hex
    rename_i u H1 hr;split at hex
    case h_2=>simp at hex
    rename_i e1 he;simp only [za2,za4] at hex;obtain ⟨rfl,rfl⟩:=hex;exact JS b7 IH hnr.1 hnr.2 hfr hb hg hr he hQ
   | _=>simp [inner,comp,exec] at hex
  refine ⟨hin,fun hs code=>?_⟩;obtain ⟨h,he⟩:=GZ (P:=P) hs code;rw [he];exact yu h b7.aF (hin hs code) ((ih n (Nat.lt_succ_self _)).1 hs code)
def Pu (E:Env) (hp:Nat->Bool) (f:Nat) (xs:List AV) (r:AV):Prop:=∃ n,m6 E.fns (exec E hp n) f xs=some r
theorem Pu.calls (b7:iH P E) {f:Nat} {xs:List AV} {r:AV} (h:Pu E hp f xs r) {c:Ctx} (hO:∀ b,¬ c.O b) (hH:c.H=[]) (CL:gU c E.aF)
 {vs:List Value} (hl:vs.length=xs.length) (hv:∀ i (hi:i < xs.length) (hj:i < vs.length),V c xs[i] vs[i]):
 Calls P f vs.toArray c.w fun e w'=>∃ v,e= .returned v/\(c.w.heap.size<=w'.heap.size/\cZ c.w w')/\(∀ b,b < c.w.heap.size->w'.heap[b]?=c.w.heap[b]?)/\r.bD 0=true/\
  ∀ c':Ctx,c'.w=w'->(∀ b,¬ c'.O b)->V c' r v:=by
 obtain ⟨n,hn⟩:=h;have iU:SR (fo P fun _=>False) c:=by
  refine ⟨⟨fun id nl sz es h1=>by rw [hH] at h1;simp at h1,fun id id' _ _ _ _ _ _ h1=>by rw [hH] at h1;simp at h1⟩,fun b=>⟨fun h=>(hO b h).elim,fun h=>h.elim (fun h=>h.elim) ?_⟩,fun b h=>h.elim,fun b _ h=>h,.nil hH⟩;rintro ⟨id,nl,sz,es,h1,_⟩;rw [hH] at h1;simp at h1
 refine (xM b7 (G1 b7 n).2 hn iU hH CL hl hv).mono ?_;rintro e w' ⟨v,rfl,h1,h2,h3,h4⟩;exact ⟨v,rfl,h1,h2,h3,fun c' hw hO'=>h4 c' hw fun b hb=>(hO' b hb).elim⟩
end
end Go.Am
