/- Slots that code does not write to are kept. No condition. -/
import Derived.Test.YtafgdbaekppjcaaGreatDoorDnF
set_option linter.unusedSectionVars false
set_option linter.unusedVariables false
set_option linter.unusedSimpArgs false
namespace oe
open Go hiding Obj mark
open Go.Pl Go.Am Go.Am.As
def uU:List bH->List Nat
 | []=>[]
 | o::r=>match o.dst with
  | some d=>d::uU r
  | none=>uU r
def zD:List (Nat×bH)->List Nat
 | []=>[]
 | o::r=>match o.2.dst with
  | some d=>d::zD r
  | none=>zD r
def qE:List GA->List Nat
 | []=>[]
 | .kill l::r=>l++qE r
 | .wk l::r=>l++qE r
 | .uc t::r=>t::qE r
 | .nq t::r=>t::qE r
 | .prom t _::r=>t::qE r
 | .cut t::r=>t::qE r
 | _::r=>qE r
def mw:RC->Bool
 | .exit _=>true
 | .AT ..=>true
 | .seq a b=>mw a||mw b
 | .cond _ a b=>mw a||mw b
 | .block _ b=>mw b
 | .loop b=>mw b
 | .gh _ r _=>mw r
 | _=>false
def kU:RC->Bool
 | .ret=>true
 | .seq a b=> !mw a&&kU b
 | .cond _ a b=>kU a&&kU b
 | .block _ b=>kU b
 | .gh _ r _=>kU r
 | _=>false
def b6:RC->List Nat
 | .u5 ops=>uU ops
 | .draw ops=>uU ops
 | .jG ops _=>uU ops
 | .kB ops _ _=>zD ops
 | .seq a b=>if kU b then (if mw a then b6 a else []) else b6 a++b6 b
 | .cond _ a b=>b6 a++b6 b
 | .block _ b=>b6 b
 | .loop b=>b6 b
 | .gh pre r post=>if kU r then [] else qE pre++(b6 r++qE post)
 | _=>[]
theorem DO {x:Nat}:∀ {a b:List Nat},mq x (a++b)=(mq x a||mq x b)
 | [],b=>rfl
 | y::a,b=>by rw [zaM,mq,mq,DO,Bool.or_assoc]
theorem Aa {x:Nat} {a b:List Nat} (h:mq x (a++b)=false):mq x a=false/\mq x b=false:=by
 rw [DO,zbW] at h;exact h
theorem qq {x y:Nat} {a:List Nat} (h:mq x (y::a)=false):x≠y/\mq x a=false:=by
 rw [mq,zbW] at h;refine ⟨?_,h.2⟩;rintro rfl;have:=h.1;simp at this
def bK (A:List Nat) (t t':T):Prop:=∀ x,mq x A=false->t'.get x=t.get x
theorem bK.refl {A:List Nat} {t:T}:bK A t t:=fun _ _=>rfl
theorem bK.trans {A:List Nat} {a b c:T} (h:bK A a b) (g:bK A b c):bK A a c:=fun x hx=>(g x hx).trans (h x hx)
theorem bK.y7 {A B:List Nat} {a b:T} (h:bK A a b):bK (A++B) a b:=fun x hx=>h x (Aa hx).1
theorem bK.Bd {A B:List Nat} {a b:T} (h:bK B a b):bK (A++B) a b:=fun x hx=>h x (Aa hx).2
theorem bK.cons {A:List Nat} {y:Nat} {a b:T} (h:bK A a b):bK (y::A) a b:=fun x hx=>h x (qq hx).2
theorem iQ {A:List Nat} {t:T} {d:Nat} {v:AV}:bK (d::A) t (t.put d v):=by
 intro x hx;have:=(qq hx).1;unfold T.put;split
 ·show T.eY _ x=T.eY t.l x;rw [T.tH,if_neg this]
 ·rfl
theorem yd:∀ {l:List Nat} {t:T},bK l t (T.fI l t)
 | [],t=>bK.refl
 | d::l,t=>by
  have h1:bK (d::l) t ⟨t.sz,T.nh t.l d⟩:=by
   intro x hx;show T.eY (T.nh t.l d) x=T.eY t.l x;rw [T.oF,if_neg (qq hx).1]
  exact h1.trans (yd.cons)
theorem oG {d:Option Nat} {A:List Nat} {t:T} {v:AV} {o:bH} (h:o.dst=d) (os:List bH):bK (uU (o::os)) t (cS t d v):=by
 cases d with
 | none=>exact bK.refl
 | some d=>
  rw [uU,h];exact iQ
theorem oH {o:bH} {os:List bH} {a b:T} (h:bK (uU os) a b):bK (uU (o::os)) a b:=by
 rw [uU]
 cases o.dst with
 | none=>exact h
 | some d=>exact h.cons
theorem r5 {Gl:Nat->List AV} {hp:Nat->Bool} {cI:CI} {cH:CH}:∀ {os:List bH} {t:T} {H:List Obj} {t':T} {H':List Obj},aZ Gl hp cI cH os t H=some (t',H')->bK (uU os) t t'
 | [],t,H,t',H',h=>by
  simp only [aZ,za2,za4] at h;obtain ⟨rfl,_⟩:=h;exact bK.refl
 | o::os,t,H,t',H',h=>by
  rw [aZ] at h;split at h
  ·split at h
   case h_2=>cases h
   simp only [dU] at h;exact (oG (A:=[]) rfl os).trans (oH (r5 h))
  ·exact (oG (A:=[]) rfl os).trans (oH (r5 h))
  ·cases h
theorem Gf {Gl:Nat->List AV} {hp:Nat->Bool} {cI:CI} {cH:CH} {bf:List Nat}:∀ {os:List bH} {i:Nat} {rs:List (Nat×(List Obj->Option AV)×AV)} {hs:List (Nat×List Obj×List Obj)} {t:T} {H:List Obj} {t':T} {H':List Obj},g9 Gl hp cI cH bf os i rs hs t H=some (t',H')->bK (uU os) t t'
 | [],i,rs,hs,t,H,t',H',h=>by
  simp only [g9,za2,za4] at h;obtain ⟨rfl,_⟩:=h;exact bK.refl
 | o::os,i,rs,hs,t,H,t',H',h=>by
  rw [g9] at h;split at h
  ·cases h
  simp only [dU] at h;split at h
  ·exact (oG (A:=[]) rfl os).trans (oH (Gf h))
  all_goals
   split at h
   case isFalse=>cases h
   exact (oG (A:=[]) rfl os).trans (oH (Gf h))
theorem MW {Gl:Nat->List AV} {cI:CI} {b:Nat}:∀ {os:List (Nat×bH)} {t:T} {H:List Obj} {t':T} {H':List Obj} {fs:List FP},gD Gl cI b os t H=some (t',H',fs)->bK (zD os) t t'
 | [],t,H,t',H',fs,h=>by
  simp only [gD,za2,za4] at h;obtain ⟨rfl,_⟩:=h;exact bK.refl
 | (k,o)::os,t,H,t',H',fs,h=>by
  rw [gD] at h;split at h
  case h_2=>cases h
  simp only [dU] at h;split at h
  case h_2=>cases h
  rename_i hr;simp only [za2,za4] at h;obtain ⟨rfl,_⟩:=h;have ih:=MW hr;rw [zD]
  cases hd:o.dst with
  | none=>rw [hd] at ih;exact ih
  | some d=>
   rw [hd] at ih;exact bK.trans (iQ (A:=zD os)) ih.cons
theorem DP:∀ {l:List Nat} {s:ST},bK l s.tmps (vO l s).tmps
 | [],s=>bK.refl
 | d::l,s=>by
  rw [vO];exact bK.trans (iQ (A:=l)) (DP (s:=⟨_,_⟩)).cons
theorem OR {b:Nat} {s s':ST} {a:GA} {r:List GA} (h:aD b s a=some s'):bK (qE (a::r)) s.tmps s'.tmps:=by
 cases a with
 | kill l=>
  simp only [aD,za2] at h;subst h;exact yd.y7
 | wk l=>
  simp only [aD,za2] at h;subst h;exact DP.y7
 | uc t=>
  have k:∀ {s':ST},pM t s=some s'->bK (qE (.uc t::r)) s.tmps s'.tmps:=by
   intro s' h;unfold pM at h;split at h
   ·split at h
    ·split at h
     ·injection h with h;subst h;exact iQ
     ·cases h
    ·cases h
   ·injection h with h;subst h;exact bK.refl
  rw [aD] at h;split at h
  ·rename_i s1 h1;injection h with h;subst h;exact k h1
  ·injection h with h;subst h;exact bK.refl
 | nq t=>
  have k:∀ {s':ST},lz t s=some s'->bK (qE (.nq t::r)) s.tmps s'.tmps:=by
   intro s' h;unfold lz at h;split at h
   ·split at h
    ·split at h
     ·injection h with h;subst h;exact iQ
     ·cases h
    ·cases h
   ·cases h
  rw [aD] at h;split at h
  ·rename_i s1 h1;injection h with h;subst h;exact k h1
  ·injection h with h;subst h;exact bK.refl
 | prom t sz=>
  rw [aD] at h;split at h
  ·injection h with h;subst h;exact iQ
  ·injection h with h;subst h;exact bK.refl
 | cut t=>
  rw [aD] at h;split at h
  ·split at h
   ·split at h
    ·injection h with h;subst h;exact iQ
    ·cases h
   ·cases h
  ·cases h
 | ku n=>
  rw [aD] at h;split at h<;>(injection h with h;subst h;exact bK.refl)
 | sh t=>
  rw [aD] at h;split at h
  ·split at h<;>(injection h with h;subst h;exact bK.refl)
  ·injection h with h;subst h;exact bK.refl
 | res t=>
  rw [aD] at h;split at h
  ·split at h<;>(injection h with h;subst h;exact bK.refl)
  ·injection h with h;subst h;exact bK.refl
 | pz t off sz=>
  rw [aD] at h;split at h
  ·split at h
   ·split at h
    ·injection h with h;subst h;exact bK.refl
    ·cases h
   ·injection h with h;subst h;exact bK.refl
  ·injection h with h;subst h;exact bK.refl
 | yX t off=>
  rw [aD] at h;split at h
  ·split at h
   ·split at h
    ·cases h
    split at h
    ·split at h
     ·injection h with h;subst h;exact bK.refl
     ·cases h
    ·injection h with h;subst h;exact bK.refl
   ·injection h with h;subst h;exact bK.refl
  ·injection h with h;subst h;exact bK.refl
theorem OS {a:GA} {r:List GA} {t t':T} (h:bK (qE r) t t'):bK (qE (a::r)) t t':=by
 cases a with
 | kill l=>exact h.Bd
 | wk l=>exact h.Bd
 | uc t=>exact h.cons
 | nq t=>exact h.cons
 | prom t sz=>exact h.cons
 | cut t=>exact h.cons
 | _=>exact h
theorem rC {b:Nat}:∀ {l:List GA} {s s':ST},cF b l s=some s'->bK (qE l) s.tmps s'.tmps
 | [],s,s',h=>by
  simp only [cF,za2] at h;subst h;exact bK.refl
 | a::r,s,s',h=>by
  rw [cF] at h;split at h
  case h_2=>cases h
  rename_i s1 h1;exact (OR h1).trans (OS (rC h))
theorem tI (E:Env) (hp:Nat->Bool):∀ (n:Nat) (c:RC) (b:Nat) (s:ST) (i:Nat) (s':ST),ak E hp n c b s=some (.exit i,s')->mw c=true
 | 0,c,b,s,i,s',h=>by simp [ak] at h
 | n+1,c,b,s,i,s',h=>by
  have ih:=tI E hp n
  cases c with
  | bad=>simp [ak] at h
  | skip=>simp [ak] at h
  | ret=>simp [ak] at h
  | exit i=>rfl
  | seq x y=>
   rw [ak] at h;show (mw x||mw y)=true;split at h
   ·rw [ih _ _ _ _ _ h,zbK]
   ·rw [ih _ _ _ _ _ h,Bool.true_or]
  | cond x p q=>
   rw [ak] at h;show (mw p||mw q)=true;split at h
   ·rw [ih _ _ _ _ _ h,Bool.true_or]
   ·rw [ih _ _ _ _ _ h,zbK]
   ·cases h
  | block i p=>
   show mw p=true;rw [ak] at h;split at h
   ·rename_i j s1 h1;exact ih _ _ _ _ _ h1
   ·exact ih _ _ _ _ _ h
  | loop p=>
   have ihl:=ih (.loop p);show mw p=true;rw [ak] at h;split at h
   ·exact ihl _ _ _ _ h
   ·exact ih _ _ _ _ _ h
  | gh pre r post=>
   show mw r=true;rw [ak] at h;split at h
   case h_2=>cases h
   split at h
   ·split at h
    ·cases h
    ·cases h
   ·exact ih _ _ _ _ _ h
  | AT g ps as body=>rfl
  | u5 ops=>rw [ak] at h;split at h<;>cases h
  | draw ops=>rw [ak] at h;split at h<;>cases h
  | jG ops bf=>rw [ak] at h;split at h<;>cases h
  | kB ops k ps=>
   rw [ak] at h;split at h
   ·split at h<;>cases h
   ·cases h
theorem oI (E:Env) (hp:Nat->Bool):∀ (n:Nat) (c:RC) (b:Nat) (s:ST) (e:Ex) (s':ST),ak E hp n c b s=some (e,s')->kU c=true->e= .ret
 | 0,c,b,s,e,s',h,hr=>by simp [ak] at h
 | n+1,c,b,s,e,s',h,hr=>by
  have ih:=oI E hp n
  cases c with
  | ret=>simp only [ak,za2,za4] at h;exact h.1.symm
  | seq x y=>
   have hr:(!mw x&&kU y)=true:=hr;rw [za0] at hr;rw [ak] at h;split at h
   ·exact ih _ _ _ _ _ h hr.2
   ·rename_i hne
    cases e with
    | ret=>rfl
    | normal=>exact (hne _ h).elim
    | exit i=>rw [tI E hp n _ _ _ _ _ h] at hr;cases hr.1
  | cond x p q=>
   have hr:(kU p&&kU q)=true:=hr;rw [za0] at hr;rw [ak] at h;split at h
   ·exact ih _ _ _ _ _ h hr.1
   ·exact ih _ _ _ _ _ h hr.2
   ·cases h
  | block i p=>
   have hr:kU p=true:=hr;rw [ak] at h;split at h
   ·rename_i j s1 h1;cases ih _ _ _ _ _ h1 hr
   ·exact ih _ _ _ _ _ h hr
  | gh pre r post=>
   have hr:kU r=true:=hr;rw [ak] at h;split at h
   case h_2=>cases h
   split at h
   ·rename_i s1 h1;cases ih _ _ _ _ _ h1 hr
   ·exact ih _ _ _ _ _ h hr
  | _=>cases hr
theorem Ab (E:Env) (hp:Nat->Bool):∀ (n:Nat) (c:RC) (b:Nat) (s:ST) (e:Ex) (s':ST),ak E hp n c b s=some (e,s')->e≠ .ret->bK (b6 c) s.tmps s'.tmps
 | 0,c,b,s,e,s',h,hne=>by simp [ak] at h
 | n+1,c,b,s,e,s',h,hne=>by
  have ih:=Ab E hp n
  cases c with
  | bad=>simp [ak] at h
  | skip=>simp only [ak,za2,za4] at h;obtain ⟨_,rfl⟩:=h;exact bK.refl
  | ret=>simp only [ak,za2,za4] at h;obtain ⟨_,rfl⟩:=h;exact bK.refl
  | exit i=>simp only [ak,za2,za4] at h;obtain ⟨_,rfl⟩:=h;exact bK.refl
  | seq x y=>
   show bK (if kU y then (if mw x then b6 x else []) else b6 x++b6 y) _ _;rw [ak] at h;split at h
   ·rename_i s1 h1;have hy:kU y=false:=by
     cases hy:kU y with
     | false=>rfl
     | true=>exact (hne (oI E hp n _ _ _ _ _ h hy)).elim
    rw [hy];exact (ih _ _ _ _ _ h1 nofun).y7.trans (ih _ _ _ _ _ h hne).Bd
   ·rename_i hn;have h1:=ih _ _ _ _ _ h hne;split
    ·cases e with
     | ret=>exact (hne rfl).elim
     | normal=>exact (hn _ h).elim
     | exit i=>rw [tI E hp n _ _ _ _ _ h];exact h1
    ·exact h1.y7
  | cond x p q=>
   rw [ak] at h;split at h
   ·exact (ih _ _ _ _ _ h hne).y7
   ·exact (ih _ _ _ _ _ h hne).Bd
   ·cases h
  | block i p=>
   show bK (b6 p) _ _;rw [ak] at h;split at h
   ·rename_i j s1 h1;split at h<;>(simp only [za2,za4] at h;obtain ⟨_,rfl⟩:=h;exact ih _ _ _ _ _ h1 nofun)
   ·exact ih _ _ _ _ _ h hne
  | loop p=>
   have ihl:=ih (.loop p) b;show bK (b6 p) _ _;rw [ak] at h;split at h
   ·rename_i s1 h1;exact bK.trans (ih _ _ _ _ _ h1 nofun) (ihl _ _ _ h hne)
   ·exact ih _ _ _ _ _ h hne
  | u5 ops=>
   rw [ak] at h;split at h
   case h_2=>cases h
   rename_i h1;simp only [za2,za4] at h;obtain ⟨_,rfl⟩:=h;exact r5 h1
  | draw ops=>
   rw [ak] at h;split at h
   case h_2=>cases h
   rename_i h1;simp only [za2,za4] at h;obtain ⟨_,rfl⟩:=h;exact r5 h1
  | jG ops bf=>
   rw [ak] at h;split at h
   case h_2=>cases h
   rename_i h1;simp only [za2,za4] at h;obtain ⟨_,rfl⟩:=h;exact Gf h1
  | kB ops k ps=>
   rw [ak] at h;split at h
   case h_2=>cases h
   rename_i h1;split at h
   case isFalse=>cases h
   simp only [za2,za4] at h;obtain ⟨_,rfl⟩:=h;exact MW h1
  | gh pre r post=>
   show bK (if kU r then [] else qE pre++(b6 r++qE post)) _ _;rw [ak] at h;split at h
   case h_2=>cases h
   rename_i s0 h0;split at h
   ·rename_i s1 h1;have hy:kU r=false:=by
     cases hy:kU r with
     | false=>rfl
     | true=>cases oI E hp n _ _ _ _ _ h1 hy
    rw [hy];split at h
    case h_2=>cases h
    rename_i s2 h2;simp only [za2,za4] at h;obtain ⟨_,rfl⟩:=h;exact (rC h0).y7.trans ((bK.y7 (ih _ _ _ _ _ h1 nofun)).Bd.trans (bK.Bd (rC h2)).Bd)
   ·have hy:kU r=false:=by
     cases hy:kU r with
     | false=>rfl
     | true=>exact (hne (oI E hp n _ _ _ _ _ h hy)).elim
    rw [hy];exact (rC h0).y7.trans (bK.y7 (ih _ _ _ _ _ h hne)).Bd
  | AT g ps as body=>
   rw [ak] at h;split at h
   case h_2=>cases h
   split at h
   case h_2=>cases h
   split at h
   case h_2=>cases h
   simp only [za2,za4] at h;obtain ⟨_,rfl⟩:=h;exact bK.refl
theorem ou {E:Env} {hp:Nat->Bool} {c:RC} {b:Nat} {Q:Ex->ST->Prop} {s:ST} (h:WP E hp c b Q s):WP E hp c b (fun e s'=>Q e s'/\(e≠ .ret->bK (b6 c) s.tmps s'.tmps)) s:=by
 obtain ⟨n,e,s',h1,h2⟩:=h;exact ⟨n,e,s',h1,h2,Ab E hp n _ _ _ _ _ h1⟩
end oe
