/- Slots that code does not write to are kept. No condition. -/
import Derived.Test.YtafgdbaekppjcaaGreatDoorDnF
set_option linter.unusedSectionVars false
set_option linter.unusedVariables false
set_option linter.unusedSimpArgs false
namespace Dnm
open Go hiding Obj mark
open Go.Pl Go.Am Go.Am.As
set_option linter.unusedVariables false
def dsts:List ROp→List Nat
 | []=>[]
 | o::r=>match o.dst with
  | some d=>d::dsts r
  | none=>dsts r
def dstsW:List (Nat×ROp)→List Nat
 | []=>[]
 | o::r=>match o.2.dst with
  | some d=>d::dstsW r
  | none=>dstsW r
def gas:List GA→List Nat
 | []=>[]
 | .kill l::r=>l++gas r
 | .wk l::r=>l++gas r
 | .frz t::r=>t::gas r
 | .frzp t::r=>t::gas r
 | .prom t _::r=>t::gas r
 | .cut t::r=>t::gas r
 | _::r=>gas r
def hasX:RC→Bool
 | .exit _=>true
 | .rfn ..=>true
 | .seq a b=>hasX a||hasX b
 | .cond _ a b=>hasX a||hasX b
 | .block _ b=>hasX b
 | .loop b=>hasX b
 | .gh _ r _=>hasX r
 | _=>false
def retE:RC→Bool
 | .ret=>true
 | .seq a b=> !hasX a&&retE b
 | .cond _ a b=>retE a&&retE b
 | .block _ b=>retE b
 | .gh _ r _=>retE r
 | _=>false
def asg:RC→List Nat
 | .reg ops=>dsts ops
 | .draw ops=>dsts ops
 | .drawX ops _=>dsts ops
 | .drawW ops _ _=>dstsW ops
 | .seq a b=>if retE b then (if hasX a then asg a else []) else asg a++asg b
 | .cond _ a b=>asg a++asg b
 | .block _ b=>asg b
 | .loop b=>asg b
 | .gh pre r post=>if retE r then [] else gas pre++(asg r++gas post)
 | _=>[]
theorem memN_app {x:Nat}:∀ {a b:List Nat},memN x (a++b)=(memN x a||memN x b)
 | [],b=>rfl
 | y::a,b=>by rw [List.cons_append,memN,memN,memN_app,Bool.or_assoc]
theorem memN_appf {x:Nat} {a b:List Nat} (h:memN x (a++b)=false):memN x a=false∧memN x b=false:=by
 rw [memN_app,Bool.or_eq_false_iff] at h;exact h
theorem memN_consf {x y:Nat} {a:List Nat} (h:memN x (y::a)=false):x≠y∧memN x a=false:=by
 rw [memN,Bool.or_eq_false_iff] at h
 refine ⟨?_,h.2⟩
 rintro rfl
 have:=h.1
 simp at this
def Keep (A:List Nat) (t t':T):Prop:=∀ x,memN x A=false→t'.get x=t.get x
theorem Keep.refl {A:List Nat} {t:T}:Keep A t t:=fun _ _=>rfl
theorem Keep.trans {A:List Nat} {a b c:T} (h:Keep A a b) (g:Keep A b c):Keep A a c:=fun x hx=>(g x hx).trans (h x hx)
theorem Keep.app1 {A B:List Nat} {a b:T} (h:Keep A a b):Keep (A++B) a b:=fun x hx=>h x (memN_appf hx).1
theorem Keep.app2 {A B:List Nat} {a b:T} (h:Keep B a b):Keep (A++B) a b:=fun x hx=>h x (memN_appf hx).2
theorem Keep.cons {A:List Nat} {y:Nat} {a b:T} (h:Keep A a b):Keep (y::A) a b:=fun x hx=>h x (memN_consf hx).2
theorem keep_put {A:List Nat} {t:T} {d:Nat} {v:AV}:Keep (d::A) t (t.put d v):=by
 intro x hx
 have:=(memN_consf hx).1
 unfold T.put
 split
 ·show T.getL _ x=T.getL t.l x
  rw [T.getL_putL,if_neg this]
 ·rfl
theorem keep_kills:∀ {l:List Nat} {t:T},Keep l t (T.kills l t)
 | [],t=>Keep.refl
 | d::l,t=>by
  have h1:Keep (d::l) t ⟨t.sz,T.delL t.l d⟩:=by
   intro x hx
   show T.getL (T.delL t.l d) x=T.getL t.l x
   rw [T.getL_delL,if_neg (memN_consf hx).1]
  exact h1.trans (keep_kills.cons)
theorem keep_putD {d:Option Nat} {A:List Nat} {t:T} {v:AV} {o:ROp} (h:o.dst=d) (os:List ROp):Keep (dsts (o::os)) t (putD t d v):=by
 cases d with
 | none=>exact Keep.refl
 | some d=>
  rw [dsts,h]
  exact keep_put
theorem keep_tail {o:ROp} {os:List ROp} {a b:T} (h:Keep (dsts os) a b):Keep (dsts (o::os)) a b:=by
 rw [dsts]
 cases o.dst with
 | none=>exact h
 | some d=>exact h.cons
theorem keep_ops {Gl:Nat→List AV} {hp:Nat→Bool} {cI:CI} {cH:CH}:∀ {os:List ROp} {t:T} {H:List Obj} {t':T} {H':List Obj},runOpsT Gl hp cI cH os t H=some (t',H')→Keep (dsts os) t t'
 | [],t,H,t',H',h=>by
  simp only [runOpsT,Option.some.injEq,Prod.mk.injEq] at h
  obtain ⟨rfl,_⟩:=h;exact Keep.refl
 | o::os,t,H,t',H',h=>by
  rw [runOpsT] at h
  split at h
  ·split at h
   case h_2=>cases h
   simp only [frc_eq] at h
   exact (keep_putD (A:=[]) rfl os).trans (keep_tail (keep_ops h))
  ·exact (keep_putD (A:=[]) rfl os).trans (keep_tail (keep_ops h))
  ·cases h
theorem keep_X {Gl:Nat→List AV} {hp:Nat→Bool} {cI:CI} {cH:CH} {bf:List Nat}:∀ {os:List ROp} {i:Nat} {rs:List (Nat×(List Obj→Option AV)×AV)} {hs:List (Nat×List Obj×List Obj)} {t:T} {H:List Obj} {t':T} {H':List Obj},runXT Gl hp cI cH bf os i rs hs t H=some (t',H')→Keep (dsts os) t t'
 | [],i,rs,hs,t,H,t',H',h=>by
  simp only [runXT,Option.some.injEq,Prod.mk.injEq] at h
  obtain ⟨rfl,_⟩:=h;exact Keep.refl
 | o::os,i,rs,hs,t,H,t',H',h=>by
  rw [runXT] at h
  split at h
  ·cases h
  simp only [frc_eq] at h
  split at h
  ·exact (keep_putD (A:=[]) rfl os).trans (keep_tail (keep_X h))
  all_goals
   split at h
   case isFalse=>cases h
   exact (keep_putD (A:=[]) rfl os).trans (keep_tail (keep_X h))
theorem keep_D {Gl:Nat→List AV} {cI:CI} {b:Nat}:∀ {os:List (Nat×ROp)} {t:T} {H:List Obj} {t':T} {H':List Obj} {fs:List FP},runDT Gl cI b os t H=some (t',H',fs)→Keep (dstsW os) t t'
 | [],t,H,t',H',fs,h=>by
  simp only [runDT,Option.some.injEq,Prod.mk.injEq] at h
  obtain ⟨rfl,_⟩:=h;exact Keep.refl
 | (k,o)::os,t,H,t',H',fs,h=>by
  rw [runDT] at h
  split at h
  case h_2=>cases h
  simp only [frc_eq] at h
  split at h
  case h_2=>cases h
  rename_i hr
  simp only [Option.some.injEq,Prod.mk.injEq] at h
  obtain ⟨rfl,_⟩:=h
  have ih:=keep_D hr
  rw [dstsW]
  cases hd:o.dst with
  | none=>rw [hd] at ih;exact ih
  | some d=>
   rw [hd] at ih
   exact Keep.trans (keep_put (A:=dstsW os)) ih.cons
theorem keep_wks:∀ {l:List Nat} {s:ST},Keep l s.tmps (wksT l s).tmps
 | [],s=>Keep.refl
 | d::l,s=>by
  rw [wksT]
  exact Keep.trans (keep_put (A:=l)) (keep_wks (s:=⟨_,_⟩)).cons
theorem keep_gh1 {b:Nat} {s s':ST} {a:GA} {r:List GA} (h:ghost1T b s a=some s'):Keep (gas (a::r)) s.tmps s'.tmps:=by
 cases a with
 | kill l=>
  simp only [ghost1T,Option.some.injEq] at h;subst h
  exact keep_kills.app1
 | wk l=>
  simp only [ghost1T,Option.some.injEq] at h;subst h
  exact keep_wks.app1
 | frz t=>
  have k:∀ {s':ST},frzT t s=some s'→Keep (gas (.frz t::r)) s.tmps s'.tmps:=by
   intro s' h
   unfold frzT at h
   split at h
   ·split at h
    ·split at h
     ·injection h with h;subst h;exact keep_put
     ·cases h
    ·cases h
   ·injection h with h;subst h;exact Keep.refl
  rw [ghost1T] at h
  split at h
  ·rename_i s1 h1;injection h with h;subst h;exact k h1
  ·injection h with h;subst h;exact Keep.refl
 | frzp t=>
  have k:∀ {s':ST},frzpT t s=some s'→Keep (gas (.frzp t::r)) s.tmps s'.tmps:=by
   intro s' h
   unfold frzpT at h
   split at h
   ·split at h
    ·split at h
     ·injection h with h;subst h;exact keep_put
     ·cases h
    ·cases h
   ·cases h
  rw [ghost1T] at h
  split at h
  ·rename_i s1 h1;injection h with h;subst h;exact k h1
  ·injection h with h;subst h;exact Keep.refl
 | prom t sz=>
  rw [ghost1T] at h
  split at h
  ·injection h with h;subst h;exact keep_put
  ·injection h with h;subst h;exact Keep.refl
 | cut t=>
  rw [ghost1T] at h
  split at h
  ·split at h
   ·split at h
    ·injection h with h;subst h;exact keep_put
    ·cases h
   ·cases h
  ·cases h
 | trunc n=>
  rw [ghost1T] at h
  split at h<;>(injection h with h;subst h;exact Keep.refl)
 | sh t=>
  rw [ghost1T] at h
  split at h
  ·split at h<;>(injection h with h;subst h;exact Keep.refl)
  ·injection h with h;subst h;exact Keep.refl
 | res t=>
  rw [ghost1T] at h
  split at h
  ·split at h<;>(injection h with h;subst h;exact Keep.refl)
  ·injection h with h;subst h;exact Keep.refl
 | promf t off sz=>
  rw [ghost1T] at h
  split at h
  ·split at h
   ·split at h
    ·injection h with h;subst h;exact Keep.refl
    ·cases h
   ·injection h with h;subst h;exact Keep.refl
  ·injection h with h;subst h;exact Keep.refl
 | frzb t off=>
  rw [ghost1T] at h
  split at h
  ·split at h
   ·split at h
    ·cases h
    split at h
    ·split at h
     ·injection h with h;subst h;exact Keep.refl
     ·cases h
    ·injection h with h;subst h;exact Keep.refl
   ·injection h with h;subst h;exact Keep.refl
  ·injection h with h;subst h;exact Keep.refl
theorem gas_tail {a:GA} {r:List GA} {t t':T} (h:Keep (gas r) t t'):Keep (gas (a::r)) t t':=by
 cases a with
 | kill l=>exact h.app2
 | wk l=>exact h.app2
 | frz t=>exact h.cons
 | frzp t=>exact h.cons
 | prom t sz=>exact h.cons
 | cut t=>exact h.cons
 | _=>exact h
theorem keep_gh {b:Nat}:∀ {l:List GA} {s s':ST},ghostsT b l s=some s'→Keep (gas l) s.tmps s'.tmps
 | [],s,s',h=>by
  simp only [ghostsT,Option.some.injEq] at h;subst h;exact Keep.refl
 | a::r,s,s',h=>by
  rw [ghostsT] at h
  split at h
  case h_2=>cases h
  rename_i s1 h1
  exact (keep_gh1 h1).trans (gas_tail (keep_gh h))
theorem exec_hasX (E:Env) (hp:Nat→Bool):∀ (n:Nat) (c:RC) (b:Nat) (s:ST) (i:Nat) (s':ST),execT E hp n c b s=some (.exit i,s')→hasX c=true
 | 0,c,b,s,i,s',h=>by simp [execT] at h
 | n+1,c,b,s,i,s',h=>by
  have ih:=exec_hasX E hp n
  cases c with
  | bad=>simp [execT] at h
  | skip=>simp [execT] at h
  | ret=>simp [execT] at h
  | exit i=>rfl
  | seq x y=>
   rw [execT] at h
   show (hasX x||hasX y)=true
   split at h
   ·rw [ih _ _ _ _ _ h,Bool.or_true]
   ·rw [ih _ _ _ _ _ h,Bool.true_or]
  | cond x p q=>
   rw [execT] at h
   show (hasX p||hasX q)=true
   split at h
   ·rw [ih _ _ _ _ _ h,Bool.true_or]
   ·rw [ih _ _ _ _ _ h,Bool.or_true]
   ·cases h
  | block i p=>
   show hasX p=true
   rw [execT] at h
   split at h
   ·rename_i j s1 h1;exact ih _ _ _ _ _ h1
   ·exact ih _ _ _ _ _ h
  | loop p=>
   have ihl:=ih (.loop p)
   show hasX p=true
   rw [execT] at h
   split at h
   ·exact ihl _ _ _ _ h
   ·exact ih _ _ _ _ _ h
  | gh pre r post=>
   show hasX r=true
   rw [execT] at h
   split at h
   case h_2=>cases h
   split at h
   ·split at h
    ·cases h
    ·cases h
   ·exact ih _ _ _ _ _ h
  | rfn g ps as body=>rfl
  | reg ops=>rw [execT] at h;split at h<;>cases h
  | draw ops=>rw [execT] at h;split at h<;>cases h
  | drawX ops bf=>rw [execT] at h;split at h<;>cases h
  | drawW ops k ps=>
   rw [execT] at h
   split at h
   ·split at h<;>cases h
   ·cases h
theorem exec_retE (E:Env) (hp:Nat→Bool):∀ (n:Nat) (c:RC) (b:Nat) (s:ST) (e:Ex) (s':ST),execT E hp n c b s=some (e,s')→retE c=true→e= .ret
 | 0,c,b,s,e,s',h,hr=>by simp [execT] at h
 | n+1,c,b,s,e,s',h,hr=>by
  have ih:=exec_retE E hp n
  cases c with
  | ret=>simp only [execT,Option.some.injEq,Prod.mk.injEq] at h;exact h.1.symm
  | seq x y=>
   have hr:(!hasX x&&retE y)=true:=hr
   rw [Bool.and_eq_true] at hr
   rw [execT] at h
   split at h
   ·exact ih _ _ _ _ _ h hr.2
   ·rename_i hne
    cases e with
    | ret=>rfl
    | normal=>exact (hne _ h).elim
    | exit i=>rw [exec_hasX E hp n _ _ _ _ _ h] at hr;cases hr.1
  | cond x p q=>
   have hr:(retE p&&retE q)=true:=hr
   rw [Bool.and_eq_true] at hr
   rw [execT] at h
   split at h
   ·exact ih _ _ _ _ _ h hr.1
   ·exact ih _ _ _ _ _ h hr.2
   ·cases h
  | block i p=>
   have hr:retE p=true:=hr
   rw [execT] at h
   split at h
   ·rename_i j s1 h1;cases ih _ _ _ _ _ h1 hr
   ·exact ih _ _ _ _ _ h hr
  | gh pre r post=>
   have hr:retE r=true:=hr
   rw [execT] at h
   split at h
   case h_2=>cases h
   split at h
   ·rename_i s1 h1;cases ih _ _ _ _ _ h1 hr
   ·exact ih _ _ _ _ _ h hr
  | _=>cases hr
theorem exec_keep (E:Env) (hp:Nat→Bool):∀ (n:Nat) (c:RC) (b:Nat) (s:ST) (e:Ex) (s':ST),execT E hp n c b s=some (e,s')→e≠ .ret→Keep (asg c) s.tmps s'.tmps
 | 0,c,b,s,e,s',h,hne=>by simp [execT] at h
 | n+1,c,b,s,e,s',h,hne=>by
  have ih:=exec_keep E hp n
  cases c with
  | bad=>simp [execT] at h
  | skip=>simp only [execT,Option.some.injEq,Prod.mk.injEq] at h;obtain ⟨_,rfl⟩:=h;exact Keep.refl
  | ret=>simp only [execT,Option.some.injEq,Prod.mk.injEq] at h;obtain ⟨_,rfl⟩:=h;exact Keep.refl
  | exit i=>simp only [execT,Option.some.injEq,Prod.mk.injEq] at h;obtain ⟨_,rfl⟩:=h;exact Keep.refl
  | seq x y=>
   show Keep (if retE y then (if hasX x then asg x else []) else asg x++asg y) _ _
   rw [execT] at h
   split at h
   ·rename_i s1 h1
    have hy:retE y=false:=by
     cases hy:retE y with
     | false=>rfl
     | true=>exact (hne (exec_retE E hp n _ _ _ _ _ h hy)).elim
    rw [hy]
    exact (ih _ _ _ _ _ h1 nofun).app1.trans (ih _ _ _ _ _ h hne).app2
   ·rename_i hn
    have h1:=ih _ _ _ _ _ h hne
    split
    ·cases e with
     | ret=>exact (hne rfl).elim
     | normal=>exact (hn _ h).elim
     | exit i=>rw [exec_hasX E hp n _ _ _ _ _ h];exact h1
    ·exact h1.app1
  | cond x p q=>
   rw [execT] at h
   split at h
   ·exact (ih _ _ _ _ _ h hne).app1
   ·exact (ih _ _ _ _ _ h hne).app2
   ·cases h
  | block i p=>
   show Keep (asg p) _ _
   rw [execT] at h
   split at h
   ·rename_i j s1 h1
    split at h<;>(simp only [Option.some.injEq,Prod.mk.injEq] at h;obtain ⟨_,rfl⟩:=h;exact ih _ _ _ _ _ h1 nofun)
   ·exact ih _ _ _ _ _ h hne
  | loop p=>
   have ihl:=ih (.loop p) b
   show Keep (asg p) _ _
   rw [execT] at h
   split at h
   ·rename_i s1 h1
    exact Keep.trans (ih _ _ _ _ _ h1 nofun) (ihl _ _ _ h hne)
   ·exact ih _ _ _ _ _ h hne
  | reg ops=>
   rw [execT] at h
   split at h
   case h_2=>cases h
   rename_i h1
   simp only [Option.some.injEq,Prod.mk.injEq] at h;obtain ⟨_,rfl⟩:=h
   exact keep_ops h1
  | draw ops=>
   rw [execT] at h
   split at h
   case h_2=>cases h
   rename_i h1
   simp only [Option.some.injEq,Prod.mk.injEq] at h;obtain ⟨_,rfl⟩:=h
   exact keep_ops h1
  | drawX ops bf=>
   rw [execT] at h
   split at h
   case h_2=>cases h
   rename_i h1
   simp only [Option.some.injEq,Prod.mk.injEq] at h;obtain ⟨_,rfl⟩:=h
   exact keep_X h1
  | drawW ops k ps=>
   rw [execT] at h
   split at h
   case h_2=>cases h
   rename_i h1
   split at h
   case isFalse=>cases h
   simp only [Option.some.injEq,Prod.mk.injEq] at h;obtain ⟨_,rfl⟩:=h
   exact keep_D h1
  | gh pre r post=>
   show Keep (if retE r then [] else gas pre++(asg r++gas post)) _ _
   rw [execT] at h
   split at h
   case h_2=>cases h
   rename_i s0 h0
   split at h
   ·rename_i s1 h1
    have hy:retE r=false:=by
     cases hy:retE r with
     | false=>rfl
     | true=>cases exec_retE E hp n _ _ _ _ _ h1 hy
    rw [hy]
    split at h
    case h_2=>cases h
    rename_i s2 h2
    simp only [Option.some.injEq,Prod.mk.injEq] at h;obtain ⟨_,rfl⟩:=h
    exact (keep_gh h0).app1.trans ((Keep.app1 (ih _ _ _ _ _ h1 nofun)).app2.trans (Keep.app2 (keep_gh h2)).app2)
   ·have hy:retE r=false:=by
     cases hy:retE r with
     | false=>rfl
     | true=>exact (hne (exec_retE E hp n _ _ _ _ _ h hy)).elim
    rw [hy]
    exact (keep_gh h0).app1.trans (Keep.app1 (ih _ _ _ _ _ h hne)).app2
  | rfn g ps as body=>
   rw [execT] at h
   split at h
   case h_2=>cases h
   split at h
   case h_2=>cases h
   split at h
   case h_2=>cases h
   simp only [Option.some.injEq,Prod.mk.injEq] at h;obtain ⟨_,rfl⟩:=h
   exact Keep.refl
theorem WP_keep {E:Env} {hp:Nat→Bool} {c:RC} {b:Nat} {Q:Ex→ST→Prop} {s:ST} (h:WP E hp c b Q s):WP E hp c b (fun e s'=>Q e s'∧(e≠ .ret→Keep (asg c) s.tmps s'.tmps)) s:=by
 obtain ⟨n,e,s',h1,h2⟩:=h
 exact ⟨n,e,s',h1,h2,exec_keep E hp n _ _ _ _ _ h1⟩
end Dnm
