/- THE ABSTRACT MACHINE IS SOUND: what it computes, the program's code and calls do, in whatever memory and order. Condition: the environment is the program's. -/
import Derived.Test.YtafgdbaekppjcaaGreatDoorAmX
set_option linter.unusedSectionVars false
set_option linter.unusedVariables false
set_option linter.unusedSimpArgs false
namespace Go.Am
section
variable {P:Program} {E:Env} {hp:Nat->Bool}
theorem vT:∀ (k:Nat) (bz:List bD),(places k bz).map (·.2)=bz
 | _,[]=>rfl
 | k,o::os=>by simp only [places,List.map_cons,vT]
theorem vU {n:Nat} {r:RC} {code:Code} (h:Hint) (hG:∀ g,AV.aS 0 (E.aI g)=true) (h1:yx P E (exec E hp (n+1)) r code) (h0:yx P E (exec E hp n) r code):
 yx P E (exec E hp (n+1)) (gr h r) code:=by
 unfold gr;split
 ·exact h1
 ·intro ρ hρ lo F c base s e s' a hfr hb hex Q hQ;simp only [exec] at hex;split at hex
  case h_2=>simp at hex
  rename_i s0 hs0;obtain ⟨d,d1,d2,d3⟩:=iG hG h.pre hfr hs0;have hb':base<=d.H.length:=d3.len hb;split at hex
  ·rename_i s1 hs1;split at hex
   case h_2=>simp at hex
   rename_i s2 wE;simp only [Option.some.injEq,Prod.mk.injEq] at hex;obtain ⟨rfl,rfl⟩:=hex;rw [<-d1];refine h0 ρ hρ lo F d base s0 .normal s1 a d2 hb' hs1 Q fun d' a' hd' aT=>?_
   obtain ⟨d'',e1,e2,e3⟩:=iG hG h.post hd' wE;rw [<-e1];exact hQ d'' a' e2 ((d3.trans aT).trans e3)
  ·rename_i r' hne;rw [<-d1];exact h0 ρ hρ lo F d base s0 e s' a d2 hb' hex Q fun d' a' hd' aT=>hQ d' a' hd' (d3.trans aT)
def inner (P:Program) (hs:List (Nat×Hint)):Code->RC
 | .region id ops dr=>
  if dr then u5 P ((ig hs id).mid.map (·.1)) ops (ops.toList.map (aF P ops))
   else iE (ig hs id).mid (ops.toList.map (aF P ops))
 | .cond c a b=> .cond (cx c) (comp P hs a) (comp P hs b)
 | .block id b=> .block id (comp P hs b)
 | .rangeFunc g ps a b=>if lV a&&lV b then .yB (cx g) ps.toList (comp P hs a) (comp P hs b) else .bad
 | c=>comp P hs c
theorem DJ (hs:List (Nat×Hint)) (code:Code):∃ h,comp P hs code=gr h (inner P hs code):=by
 cases code with
 | region id ops dr=>exact ⟨_,rfl⟩
 | cond c a b=>exact ⟨_,rfl⟩
 | block id b=>exact ⟨_,rfl⟩
 | rangeFunc g ps a b=>exact ⟨_,rfl⟩
 | _=>exact ⟨{},rfl⟩
theorem sD {js:List Nat} {n:Nat} (ck:gU P E) (IH:∀ hs code,yx P E (exec E hp n) (comp P hs code) code) {ops:Array Oper} {first:List bD} {l2:List Nat}
 (hf:∀ i,i < first.length->∃ h:i < ops.size,first.getD i default=aF P ops ops[i])
 (hsplit:∀ mixed τ,Ord ops ops.size (Region.schedule mixed ops τ)->∃ π,Region.schedule mixed ops τ=π++l2/\Ord ops first.length π)
 {ρ:Option Nat} {lo:Nat->Prop} {F:Nat->Prop} {c:Ctx} {base:Nat} {s:St} {e:Ex} {s':St} {a:Act} (hfr:FR lo (fo P F) E.aI c s a) (hb:base<=c.H.length)
 (hex:exec E hp (n+1) (iL P js ops first) base s=some (e,s')) {Q:Exit->Act->World->Prop}
 (hQ:e= .normal->∀ d a',FR lo (fo P F) E.aI d s' a'->cM base c d->wpOpsIn (wd ρ) 0 P ops Q l2 a' d.w) (τ:Nat):
 wpOpsIn (wd ρ) 0 P ops Q (Region.schedule (P.follows .mixedOrders) ops τ) a { c.w with drawn:=c.w.drawn+1 }:=by
 have hw:=hfr.sr.drawn (c.w.drawn+1);have yX:FR lo (fo P F) E.aI { c with w:={ c.w with drawn:=c.w.drawn+1 } } s a:=hfr.gD ck.aI hw hfr.hH rfl;have Pj:mD ops first=true->exec E hp (n+1) (.draw first) base s=some (e,s')->wpOpsIn (wd ρ) 0 P ops Q (Region.schedule (P.follows .mixedOrders) ops τ) a { c.w with drawn:=c.w.drawn+1 }:=by
  intro tN hex;simp only [exec] at hex;split at hex
  case h_2=>simp at hex
  rename_i t' H' hr;simp only [Option.some.injEq,Prod.mk.injEq] at hex;obtain ⟨rfl,rfl⟩:=hex;obtain ⟨π,hπ,ho⟩:=hsplit (P.follows .mixedOrders) τ (DD tN _ _);rw [hπ];have hr':=Ns E.aI _ ho (zZ tN) hr;exact fO (c:={ c with w:={ c.w with drawn:=c.w.drawn+1 } }) ck IH (.inr rfl) ops first l2 π (fun i hi=>hf i ((ho.mem i).1 hi)) yX hb hr' fun d a' hd aT=>hQ rfl d a' hd ((hw.2.2 base).trans aT)
 unfold iL at hex;split at hex
 ·rename_i tN;simp only [Bool.and_eq_true] at tN;exact Pj tN.1 hex
 split at hex
 ·rename_i tN;simp only [Bool.and_eq_true] at tN;replace tN:=tN.1;simp only [exec] at hex;split at hex
  case h_2=>simp at hex
  rename_i t' H' hr;simp only [Option.some.injEq,Prod.mk.injEq] at hex;obtain ⟨rfl,rfl⟩:=hex;obtain ⟨π,hπ,ho⟩:=hsplit (P.follows .mixedOrders) τ (Cb tN _ _);rw [hπ];have hr':=KN E.aI hp _ _ ho (wP tN) hr;exact fO (hp:=hp) (c:={ c with w:={ c.w with drawn:=c.w.drawn+1 } }) ck IH (.inl rfl) ops first l2 π (fun i hi=>hf i ((ho.mem i).1 hi)) yX hb hr' fun d a' hd aT=>hQ rfl d a' hd ((hw.2.2 base).trans aT)
 split at hex
 ·rename_i tN;simp only [Bool.and_eq_true] at tN;exact Pj tN.1 hex
 split at hex
 ·rename_i tN;simp only [Bool.and_eq_true] at tN;replace tN:=tN.1;simp only [exec] at hex;split at hex
  case h_2=>simp at hex
  rename_i t' H' hr;simp only [Option.some.injEq,Prod.mk.injEq] at hex;obtain ⟨rfl,rfl⟩:=hex;obtain ⟨π,hπ,ho⟩:=hsplit (P.follows .mixedOrders) τ (Cc tN _ _);rw [hπ];have hr':=KU ho tN hr;exact fO (hp:=hp) (c:={ c with w:={ c.w with drawn:=c.w.drawn+1 } }) ck IH (.inl rfl) ops first l2 π (fun i hi=>hf i ((ho.mem i).1 hi)) yX hb hr' fun d a' hd aT=>hQ rfl d a' hd ((hw.2.2 base).trans aT)
 ·dsimp only at hex;have hml:(nY P js ops first).length=first.length:=by
   have:first.length<=ops.size:=by
    rcases Nat.lt_or_ge ops.size first.length with h1 | h1
    ·obtain ⟨h2,_⟩:=hf ops.size h1;omega
    ·exact h1
   simp [nY];omega
  have hmg:∀ i,i < (nY P js ops first).length->∃ h:i < ops.size,(nY P js ops first)[i]?=some (pz P js ops ops[i] (aF P ops ops[i])):=by
   intro i hi;have hi1:i < first.length:=by omega
   obtain ⟨h1,h2⟩:=hf i hi1;refine ⟨h1,?_⟩;obtain ⟨h3,h4⟩:=Gq (P:=P) h1 hi1;rw [List.getElem?_eq_getElem h3,h4];congr 2;rw [<-h2];simp [List.getD,hi1]
  rw [<-hml] at hsplit;generalize nY P js ops first=Tj at hex hml hmg hsplit
  generalize A9 (Region.before ops).toList Tj=ps at hex;generalize IM Tj=k at hex;have cZ:=vT 0 Tj;generalize places 0 Tj=rl at hex cZ;split at hex
  case isFalse=>simp [exec] at hex
  rename_i tN;simp only [exec] at hex;split at hex
  case h_2=>simp at hex
  rename_i t' H' fs hr;split at hex
  case isFalse=>simp at hex
  rename_i hps;simp only [Option.some.injEq,Prod.mk.injEq] at hex;obtain ⟨rfl,rfl⟩:=hex;obtain ⟨π,hπ,ho⟩:=hsplit (P.follows .mixedOrders) τ (Cd tN _ _);rw [hπ];have hlen:rl.length=Tj.length:=by have:=congrArg List.length cZ;simpa using this
  obtain ⟨fs',hr'⟩:=KV E.aI _ (l:=rl) (by rw [hlen];exact ho) (by rw [cZ];exact wQ tN) hr hps;obtain ⟨d1,e1,e2,e3,e4,e5,e6⟩:=Gf (G:=E.aI) yX.sr k;have CL:FR lo (fo P F) E.aI d1 ⟨s.tmps,s.H++List.replicate k .gB⟩ a:=⟨e3,yX.tr.gD e4,by rw [e2,yX.hH],yX.df.nI yX.sr (e5 0),e6 yX.gl⟩;have Ea:base<=d1.H.length:=(e5 base).len hb;have PG:({ c.w with drawn:=c.w.drawn+1 }:World)=d1.w:=e1.symm;rw [PG];refine jt (js:=js) ck IH ops rl l2 π (fun i hi=>?_) CL Ea hr' fun d a' hd aT=>hQ rfl d a' hd (((hw.2.2 base).trans (e5 base)).trans aT)
  have hi':i < Tj.length:=(ho.mem i).1 hi;obtain ⟨h1,h2⟩:=hmg i hi';have hil:i < rl.length:=by omega
  refine ⟨h1,rl[i].1,?_⟩;have h3:(rl.map (·.2))[i]?=some (pz P js ops ops[i] (aF P ops ops[i])):=by rw [cZ];exact h2
  rw [List.getElem?_map,List.getElem?_eq_getElem hil,Option.map_some] at h3;injection h3 with h3
  simp [List.getD,hil,<-h3]
theorem Gr (ck:gU P E) (ops:Array Oper):∀ (QS:List (Nat×List GA)) (p n:Nat),(∀ m,m < n->∀ hs code,yx P E (exec E hp m) (comp P hs code) code)->
 ∀ {ρ:Option Nat} {lo:Nat->Prop} {F:Nat->Prop} {c:Ctx} {base:Nat} {s:St} {e:Ex} {s':St} {a:Act},FR lo (fo P F) E.aI c s a->base<=c.H.length->
 exec E hp n (iE QS ((ops.toList.map (aF P ops)).drop p)) base s=some (e,s')->∀ Q:Exit->Act->World->Prop,(∀ d a',FR lo (fo P F) E.aI d s' a'->cM base c d->Q (qS e) a' d.w)->
 wpOpsIn (wd ρ) 0 P ops Q (List.range' p (ops.size - p)) a c.w:=by
 have aN:∀ i,i < ops.size->∃ h:i < ops.size,(ops.toList.map (aF P ops)).getD i default=aF P ops ops[i]:=fun i hi=>⟨hi,by simp [List.getD,hi]⟩
 have yA:∀ p j,p+j<=ops.size->(List.range' p j).map (fun i=>(ops.toList.map (aF P ops)).getD i default)=((ops.toList.map (aF P ops)).drop p).take j:=by
  intro p j hj;apply List.ext_getElem
  ·simp;omega
  ·intro i h1 h2;simp at h1;have hi:p+i < ops.size:=by omega
   simp [List.getD,hi]
 intro QS;induction QS with
 | nil=>
  intro p n IH ρ lo F c base s e s' a hfr hb hex Q hQ
  cases n with
  | zero=>simp [exec] at hex
  | succ n=>
  simp only [iE,exec] at hex;split at hex
  case h_2=>simp at hex
  rename_i t' H' hr;simp only [Option.some.injEq,Prod.mk.injEq] at hex;obtain ⟨rfl,rfl⟩:=hex;rw [<-List.append_nil (List.range' p (ops.size - p))];refine fO (hp:=hp) ck (IH n (Nat.lt_succ_self _)) (.inl rfl) ops (ops.toList.map (aF P ops)) [] (List.range' p (ops.size - p)) (fun i hi=>aN i (by simp at hi;omega)) hfr hb (t':=t') (H':=H') ?_ fun d a' hd aT=>hQ d a' hd aT
  by_cases hp':p<=ops.size
  ·rw [yA p _ (by omega),List.take_of_length_le (by simp)];exact hr
  ·have:ops.size - p=0:=by omega
   rw [this];rw [List.drop_eq_nil_of_le (by simp;omega)] at hr;exact hr
 | cons jg r ihm=>
  obtain ⟨j,g⟩:=jg;intro p n IH ρ lo F c base s e s' a hfr hb hex Q hQ
  cases n with
  | zero=>simp [exec] at hex
  | succ n=>
  cases n with
  | zero=>simp [iE,exec] at hex
  | succ n=>
  cases n with
  | zero=>simp [iE,exec,ie] at hex
  | succ n=>
  have hj:∃ q,p+q<=max p ops.size/\((ops.toList.map (aF P ops)).drop p).take j=((ops.toList.map (aF P ops)).drop p).take q/\List.range' p (ops.size - p)=List.range' p q++List.range' (p+j) (ops.size - (p+j)):=by
   by_cases h1:p+j<=ops.size
   ·refine ⟨j,by omega,rfl,?_⟩;have:ops.size - p=j+(ops.size - (p+j)):=by omega
    rw [this,<-List.range'_append_1]
   ·refine ⟨ops.size - p,by omega,?_,?_⟩
    ·rw [List.take_of_length_le (by simp;omega),List.take_of_length_le (by simp)]
    ·have:ops.size - (p+j)=0:=by omega
     rw [this];simp
  obtain ⟨q,hq,Wc,Sn⟩:=hj;rw [Sn];simp only [iE] at hex;rw [Wc] at hex;have qQ:(match exec E hp (n+2) (.gh [] (.sZ (((ops.toList.map (aF P ops)).drop p).take q)) g) base s with
   | some (.normal,s1)=>exec E hp (n+2) (iE r (((ops.toList.map (aF P ops)).drop p).drop j)) base s1
   | x=>x)=some (e,s'):=hex
  have hgh:exec E hp (n+2) (.gh [] (.sZ (((ops.toList.map (aF P ops)).drop p).take q)) g) base s=(match bP E.aI hp (lO E.fns (exec E hp n)) (yy E.fns (exec E hp n)) (((ops.toList.map (aF P ops)).drop p).take q) s.tmps s.H with
   | some (t,H)=>(match ie base g ⟨t,H⟩ with | some s2=>some (.normal,s2) | none=>none)
   | none=>none):=by
   simp only [exec,ie]
   cases bP E.aI hp (lO E.fns (exec E hp n)) (yy E.fns (exec E hp n)) (((ops.toList.map (aF P ops)).drop p).take q) s.tmps s.H with
   | none=>rfl
   | some x=>rfl
  rw [hgh] at qQ
  cases hr:bP E.aI hp (lO E.fns (exec E hp n)) (yy E.fns (exec E hp n)) (((ops.toList.map (aF P ops)).drop p).take q) s.tmps s.H with
  | none=>rw [hr] at qQ;simp at qQ
  | some x=>
   obtain ⟨t1,H1⟩:=x;rw [hr] at qQ;simp only at qQ
   cases hg:ie base g ⟨t1,H1⟩ with
   | none=>rw [hg] at qQ;simp at qQ
   | some s2=>
    rw [hg] at qQ;simp only at qQ;have hr':bP E.aI hp (lO E.fns (exec E hp n)) (yy E.fns (exec E hp n)) ((List.range' p q).map fun i=>(ops.toList.map (aF P ops)).getD i default) s.tmps s.H=some (t1,H1):=by
     by_cases hpz:p<=ops.size
     ·rw [yA p q (by omega)];exact hr
     ·have hq0:q=0:=by omega
      subst hq0;simpa using hr
    refine fO (hp:=hp) ck (IH n (by omega)) (.inl rfl) ops (ops.toList.map (aF P ops)) (List.range' (p+j) (ops.size - (p+j))) (List.range' p q) (fun i hi=>aN i (by simp at hi;omega)) hfr hb hr' fun d a' hd aT=>?_
    obtain ⟨d2,g1,g2,g3⟩:=iG ck.aI g hd hg;rw [<-g1];refine ihm (p+j) (n+2) (fun m hm=>IH m (by omega)) g2 ((aT.trans g3).len hb) (by rw [List.drop_drop] at qQ;exact qQ) Q fun d' CF hd' ja=>hQ d' CF hd' ((aT.trans g3).trans ja)
def mQ (F:Fence) (P:Program) (c:Code) (Q:Exit->Act->World->Prop):Nat->Act->World->Prop
 | 0,_,_=>False
 | n+1,a,w=>c.wpIn F 0 P (Exit.then (mQ F P c Q n) Q) a w
theorem r8 {F:Fence} {Q:Exit->Act->World->Prop} {a:Act} {w:World} {c:Code} (n:Nat) (h:mQ F P c Q n a w):(Code.loop c).wpIn F 0 P Q a w:=by
 intro b k cs hro hb hr;have key:∀ n a w,mQ F P c Q n a w->
  ∃ e a' w',Q e a' w'/\ArrivesIn (Machine.fenced P F) P (lone (b.atR a (.code c:: .inLoop c::k)) cs w) b k cs e a' w':=by
  intro n;induction n with
  | zero=>intro a w h;exact h.elim
  | succ n ih=>
   intro a w h;obtain ⟨e,a₁,w₁,hq,lP⟩:=h b (.inLoop c::k) cs hro hb hr
   cases e with
   | normal=>
    obtain ⟨e₂,a₂,w₂,afg,Wd⟩:=ih a₁ w₁ hq;exact ⟨e₂,a₂,w₂,afg,.of_steps (StepsIn.trans lP (.one (fenced_calm hb hr rfl) stepR_inLoop)) Wd⟩
   | exit id=>exact ⟨_,a₁,w₁,hq,.pass (x:= .inLoop c) rfl (fun _ _=> .inl (by simp)) lP⟩
   | goto l=>exact ⟨_,a₁,w₁,hq,.pass (x:= .inLoop c) rfl (fun _ _=> .inl (by simp)) lP⟩
   | ret=>exact ⟨_,a₁,w₁,hq,.pass (x:= .inLoop c) rfl (fun _ _=> .inl (by simp)) lP⟩
   | panic ch=>exact ⟨_,a₁,w₁,hq,.pass (x:= .inLoop c) rfl (fun _ _=> .inl (by simp)) lP⟩
   | outgrown=>exact ⟨_,a₁,w₁,hq,.pass (x:= .inLoop c) rfl (fun _ _=> .inl (by simp)) lP⟩
 obtain ⟨e,a',w',hq,lP⟩:=key n a w h;exact ⟨e,a',w',hq,.of_steps (.one (fenced_calm hb hr rfl) stepR_loop) lP⟩
theorem Ce {b':RC} {b:Code}:∀ k,(∀ m,m < k->yx P E (exec E hp m) b' b)->∀ (ρ:Option Nat) (_:ρ=none\/lV b=true) (lo:Nat->Prop) (F:Nat->Prop) (c:Ctx) (base:Nat) (s:St) (e:Ex) (s':St) (a:Act),FR lo (fo P F) E.aI c s a->base<=c.H.length->
 exec E hp k (.loop b') base s=some (e,s')->∀ Q:Exit->Act->World->Prop,(∀ d a',FR lo (fo P F) E.aI d s' a'->cM base c d->Q (qS e) a' d.w)->mQ (wd ρ) P b Q k a c.w:=by
 intro k;induction k with
 | zero=>intro _ ρ hρ lo F c base s e s' a _ _ hex;simp [exec] at hex
 | succ k ih=>
  intro hm ρ hρ lo F c base s e s' a hfr hb hex Q hQ;rw [mQ];simp only [exec] at hex;split at hex
  ·rename_i s1 hs1;refine hm k (Nat.lt_succ_self _) ρ hρ lo F c base s .normal s1 a hfr hb hs1 _ fun d a' hd aT=>?_
   exact ih (fun m hlt=>hm m (by omega)) ρ hρ lo F d base s1 e s' a' hd (aT.len hb) hex Q fun d' CF hd' ja=>hQ d' CF hd' (aT.trans ja)
  ·rename_i r' hne;refine hm k (Nat.lt_succ_self _) ρ hρ lo F c base s e s' a hfr hb hex _ fun d a' hd aT=>?_
   cases e with
   | normal=>exact (hne s' hex).elim
   | exit id=>exact hQ d a' hd aT
   | ret=>exact hQ d a' hd aT
theorem Ip {ρ:Option Nat} {x y:Bool} (h:ρ=none\/(x&&y)=true):ρ=none\/x=true:=h.imp id fun h=>by simp at h;exact h.1
theorem Pk {ρ:Option Nat} {x y:Bool} (h:ρ=none\/(x&&y)=true):ρ=none\/y=true:=h.imp id fun h=>by simp at h;exact h.2
theorem DK (ck:gU P E):∀ n,(∀ hs code,yx P E (exec E hp n) (inner P hs code) code)/\(∀ hs code,yx P E (exec E hp n) (comp P hs code) code):=by
 intro n;induction n using Nat.strongRecOn with
 | _ n ih=>
 cases n with
 | zero=>exact ⟨fun hs code ρ _ lo F c base s e s' a _ _ hex=>by simp [exec] at hex,fun hs code ρ _ lo F c base s e s' a _ _ hex=>by simp [exec] at hex⟩
 | succ n=>
  have hin:∀ hs code,yx P E (exec E hp (n+1)) (inner P hs code) code:=by
   intro hs code ρ hρ lo F c base s e s' a hfr hb hex Q hQ;have IH:=(ih n (Nat.lt_succ_self _)).2
   cases code with
   | skip=>
    simp only [inner,comp,exec,Option.some.injEq,Prod.mk.injEq] at hex;obtain ⟨rfl,rfl⟩:=hex;exact wpIn_skip (hQ c a hfr (cM.refl _ _))
   | ret=>
    simp only [inner,comp,exec,Option.some.injEq,Prod.mk.injEq] at hex;obtain ⟨rfl,rfl⟩:=hex;exact wpIn_ret (hQ c a hfr (cM.refl _ _))
   | exit id=>
    simp only [inner,comp,exec,Option.some.injEq,Prod.mk.injEq] at hex;obtain ⟨rfl,rfl⟩:=hex;exact wpIn_exit (hQ c a hfr (cM.refl _ _))
   | seq x y=>
    simp only [inner,comp,exec] at hex;refine wpIn_seq ?_;split at hex
    ·rename_i s1 hs1;refine IH hs x ρ (Ip hρ) lo F c base s .normal s1 a hfr hb hs1 _ fun d a' hd aT=>?_
     exact IH hs y ρ (Pk hρ) lo F d base s1 e s' a' hd (aT.len hb) hex Q fun d' CF hd' ja=>hQ d' CF hd' (aT.trans ja)
    ·rename_i r' hne;refine IH hs x ρ (Ip hρ) lo F c base s e s' a hfr hb hex _ fun d a' hd aT=>?_
     cases e with
     | normal=>exact (hne s' hex).elim
     | exit id=>exact hQ d a' hd aT
     | ret=>exact hQ d a' hd aT
   | cond x y z=>
    simp only [inner,exec] at hex;have hx:=tO hfr.tr hfr.gl x;split at hex
    ·rename_i Ye;rw [Ye] at hx;generalize yE:a.eval x=xv at hx
     cases hx;exact wpIn_cond_true yE (IH hs y ρ (Ip hρ) lo F c base s e s' a hfr hb hex Q hQ)
    ·rename_i Ye;rw [Ye] at hx;generalize yE:a.eval x=xv at hx
     cases hx;exact wpIn_cond_false yE (IH hs z ρ (Pk hρ) lo F c base s e s' a hfr hb hex Q hQ)
    ·simp at hex
   | block id x=>
    simp only [inner,exec] at hex;refine wpIn_block ?_;split at hex
    ·rename_i i s1 hs1;split at hex
     ·rename_i hi;simp only [Option.some.injEq,Prod.mk.injEq] at hex;obtain ⟨rfl,rfl⟩:=hex;refine IH hs x ρ hρ lo F c base s (.exit i) s1 a hfr hb hs1 _ fun d a' hd aT=>?_
      simp only [qS,Exit.inBlock,hi,if_true];exact hQ d a' hd aT
     ·rename_i hi;simp only [Option.some.injEq,Prod.mk.injEq] at hex;obtain ⟨rfl,rfl⟩:=hex;refine IH hs x ρ hρ lo F c base s (.exit i) s1 a hfr hb hs1 _ fun d a' hd aT=>?_
      simp only [qS,Exit.inBlock,hi,if_false];exact hQ d a' hd aT
    ·rename_i r' hne;refine IH hs x ρ hρ lo F c base s e s' a hfr hb hex _ fun d a' hd aT=>?_
     cases e with
     | normal=>exact hQ d a' hd aT
     | exit i=>exact (hne i s' hex).elim
     | ret=>exact hQ d a' hd aT
   | loop x=>
    have aeL:exec E hp (n+1) (.loop (gr (ig hs (1000000+(g8 x).getD 999999)) (comp P hs x))) base s=some (e,s'):=hex;refine r8 (n+1) (Ce (n+1) (fun m hm=>?_) ρ (show ρ=none\/lV x=true from hρ) lo F c base s e s' a hfr hb aeL Q hQ)
    cases m with
    | zero=>exact fun ρ _ lo F c base s e s' a _ _ hex=>by simp [exec] at hex
    | succ m=>exact vU _ ck.aI ((ih (m+1) hm).2 hs x) ((ih m (by omega)).2 hs x)
   | region id ops dr=>
    have hlen:(ops.toList.map (aF P ops)).length=ops.size:=by simp
    cases dr with
    | false=>
     simp only [inner,Bool.false_eq_true,if_false] at hex;refine wpIn_region ?_;have:=Gr (hp:=hp) (ρ:=ρ) ck ops (ig hs id).mid 0 (n+1) (fun m hm=>(ih m hm).2) hfr hb (by simpa using hex) Q hQ;simpa [List.range_eq_range'] using this
    | true=>
     simp only [inner,if_true] at hex;have aN:∀ i,i < (ops.toList.map (aF P ops)).length->∃ h:i < ops.size,(ops.toList.map (aF P ops)).getD i default=aF P ops ops[i]:=by
      intro i hi;have hi':i < ops.size:=by simpa using hi
      exact ⟨hi',by simp [List.getD,hi']⟩
     unfold u5 at hex;split at hex
     ·rename_i mg;have hl:∃ k,ops.size=k+1/\∀ i,i < k->((Region.before ops).toList.getD k 0).testBit i=true:=by
       unfold IN at mg;split at mg
       case h_2=>simp at mg
       rename_i o ho;simp only [Bool.and_eq_true,List.all_eq_true,List.mem_range] at mg;have hne:ops.size≠0:=by
        intro h0;have:ops.toList=[]:=by simpa using h0
        rw [this] at ho;simp at ho
       refine ⟨ops.size - 1,by omega,fun i hi=>mg.1.2 i hi⟩
      obtain ⟨k,hk,hall⟩:=hl;simp only [exec] at hex
      cases n with
      | zero=>simp [exec] at hex
      | succ n=>
      have IH2:=(ih n (by omega)).2;have hfl:(ops.toList.map (aF P ops)).dropLast.length=k:=by simp [hk]
      have hf:∀ i,i < (ops.toList.map (aF P ops)).dropLast.length->∃ h:i < ops.size,(ops.toList.map (aF P ops)).dropLast.getD i default=aF P ops ops[i]:=by
       intro i hi;obtain ⟨h1,h2⟩:=aN i (by simp at hi ⊢;omega);refine ⟨h1,?_⟩;rw [<-h2];simp only [List.getD];rw [List.getElem?_eq_getElem hi,List.getElem_dropLast,List.getElem?_eq_getElem (by simp;omega)]
      have hsplit:∀ mixed τ,Ord ops ops.size (Region.schedule mixed ops τ)->∃ π,Region.schedule mixed ops τ=π++[k]/\Ord ops (ops.toList.map (aF P ops)).dropLast.length π:=by
       intro mixed τ ho;rw [hk] at ho;rw [hfl];exact ho.last hall
      have We:(ops.toList.map (aF P ops)).drop (ops.size - 1)=[k].map fun i=>(ops.toList.map (aF P ops)).getD i default:=by
       have hks:k < (ops.toList.map (aF P ops)).length:=by simp;omega
       rw [hk,Nat.add_sub_cancel,List.drop_eq_getElem_cons hks,List.drop_eq_nil_of_le (by simp;omega)];simp only [List.map_cons,List.map_nil,List.getD];rw [List.getElem?_eq_getElem hks];rfl
      split at hex
      ·rename_i s1 hs1;refine wpIn_region_draw fun τ=>sD ck IH2 hf hsplit hfr hb hs1 (fun _ d a' hd aT=>?_) τ
       simp only [exec] at hex;split at hex
       case h_2=>simp at hex
       rename_i t' H' hr;simp only [Option.some.injEq,Prod.mk.injEq] at hex;obtain ⟨rfl,rfl⟩:=hex;rw [We] at hr;rw [<-List.append_nil [k]];exact fO (hp:=hp) ck IH2 (.inl rfl) ops (ops.toList.map (aF P ops)) [] [k] (fun i hi=>aN i (by simp at hi;subst hi;simp;omega)) hd (aT.len hb) hr fun d' CF hd' ja=>hQ d' CF hd' (aT.trans ja)
      ·rename_i r' hne;have:e= .normal:=by
        unfold iL at hex;split at hex
        ·simp only [exec] at hex;split at hex
         ·simp only [Option.some.injEq,Prod.mk.injEq] at hex;exact hex.1.symm
         ·simp at hex
        split at hex
        ·simp only [exec] at hex;split at hex
         ·simp only [Option.some.injEq,Prod.mk.injEq] at hex;exact hex.1.symm
         ·simp at hex
        split at hex
        ·simp only [exec] at hex;split at hex
         ·simp only [Option.some.injEq,Prod.mk.injEq] at hex;exact hex.1.symm
         ·simp at hex
        split at hex
        ·simp only [exec] at hex;split at hex
         ·simp only [Option.some.injEq,Prod.mk.injEq] at hex;exact hex.1.symm
         ·simp at hex
        ·dsimp only at hex;split at hex
         ·simp only [exec] at hex;split at hex
          ·split at hex
           ·simp only [Option.some.injEq,Prod.mk.injEq] at hex;exact hex.1.symm
           ·simp at hex
          ·simp at hex
         ·simp [exec] at hex
       subst this;exact (hne _ hex).elim
     ·have Wf:e= .normal:=by
       unfold iL at hex;split at hex
       ·simp only [exec] at hex;split at hex
        ·simp only [Option.some.injEq,Prod.mk.injEq] at hex;exact hex.1.symm
        ·simp at hex
       split at hex
       ·simp only [exec] at hex;split at hex
        ·simp only [Option.some.injEq,Prod.mk.injEq] at hex;exact hex.1.symm
        ·simp at hex
       split at hex
       ·simp only [exec] at hex;split at hex
        ·simp only [Option.some.injEq,Prod.mk.injEq] at hex;exact hex.1.symm
        ·simp at hex
       split at hex
       ·simp only [exec] at hex;split at hex
        ·simp only [Option.some.injEq,Prod.mk.injEq] at hex;exact hex.1.symm
        ·simp at hex
       ·dsimp only at hex;split at hex
        ·simp only [exec] at hex;split at hex
         ·split at hex
          ·simp only [Option.some.injEq,Prod.mk.injEq] at hex;exact hex.1.symm
          ·simp at hex
         ·simp at hex
        ·simp [exec] at hex
      subst Wf;refine wpIn_region_draw fun τ=>sD (l2:=[]) ck IH aN (fun mixed τ ho=>⟨_,by rw [List.append_nil],by rw [hlen];exact ho⟩) hfr hb hex (fun _ d a' hd aT=>hQ d a' hd aT) τ
   | rangeFunc g ps x y=>
    have hnone:ρ=none:=by
     rcases hρ with h | h
     ·exact h
     ·simp [lV] at h
    subst hnone;simp only [inner] at hex;split at hex
    case isFalse=>simp [exec] at hex
    rename_i Yf;rw [Bool.and_eq_true] at Yf;simp only [exec] at hex;split at hex
    case h_2=>simp at hex
    rename_i f cap hg;split at hex
    case h_2=>simp at hex
    rename_i u H1 hr;split at hex
    case h_2=>simp at hex
    rename_i e1 he;simp only [Option.some.injEq,Prod.mk.injEq] at hex;obtain ⟨rfl,rfl⟩:=hex;exact FZ ck IH Yf.1 Yf.2 hfr hb hg hr he hQ
   | _=>simp [inner,comp,exec] at hex
  refine ⟨hin,fun hs code=>?_⟩;obtain ⟨h,he⟩:=DJ (P:=P) hs code;rw [he];exact vU h ck.aI (hin hs code) ((ih n (Nat.lt_succ_self _)).1 hs code)
def Pu (E:Env) (hp:Nat->Bool) (f:Nat) (xs:List AV) (r:AV):Prop:=∃ n,lO E.fns (exec E hp n) f xs=some r
theorem Pu.calls (ck:gU P E) {f:Nat} {xs:List AV} {r:AV} (h:Pu E hp f xs r) {c:Ctx} (hO:∀ b,¬ c.O b) (hH:c.H=[]) (Ah:gy c E.aI)
 {vs:List Value} (hl:vs.length=xs.length) (hv:∀ i (hi:i < xs.length) (hj:i < vs.length),V c xs[i] vs[i]):
 Calls P f vs.toArray c.w fun e w'=>∃ v,e= .returned v/\(c.w.heap.size<=w'.heap.size/\c7 c.w w')/\(∀ b,b < c.w.heap.size->w'.heap[b]?=c.w.heap[b]?)/\r.bA 0=true/\
  ∀ c':Ctx,c'.w=w'->(∀ b,¬ c'.O b)->V c' r v:=by
 obtain ⟨n,hn⟩:=h;have kM:SR (fo P fun _=>False) c:=by
  refine ⟨⟨fun id nl sz es h1=>by rw [hH] at h1;simp at h1,fun id id' _ _ _ _ _ _ h1=>by rw [hH] at h1;simp at h1⟩,fun b=>⟨fun h=>(hO b h).elim,fun h=>h.elim (fun h=>h.elim) ?_⟩,fun b h=>h.elim,fun b _ h=>h,.nil hH⟩;rintro ⟨id,nl,sz,es,h1,_⟩;rw [hH] at h1;simp at h1
 refine (vj ck (DK ck n).2 hn kM hH Ah hl hv).mono ?_;rintro e w' ⟨v,rfl,h1,h2,h3,h4⟩;exact ⟨v,rfl,h1,h2,h3,fun c' hw hO'=>h4 c' hw fun b hb=>(hO' b hb).elim⟩
end
end Go.Am
