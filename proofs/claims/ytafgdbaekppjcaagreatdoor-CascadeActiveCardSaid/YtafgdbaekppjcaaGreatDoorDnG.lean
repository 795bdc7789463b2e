/- Slots that code does not write to are kept. No condition. -/
import Derived.Test.YtafgdbaekppjcaaGreatDoorDnE
set_option linter.unusedSectionVars false
set_option linter.unusedVariables false
set_option linter.unusedSimpArgs false
namespace oZ
open Go hiding Obj mark
open Go.Pl Go.Am Go.Am.As
def uN:List bH->List Nat
 | []=>[]
 | o::r=>match o.dst with
  | some d=>d::uN r
  | none=>uN r
def zo:List (Nat×bH)->List Nat
 | []=>[]
 | o::r=>match o.2.dst with
  | some d=>d::zo r
  | none=>zo r
def qA:List GA->List Nat
 | []=>[]
 | .kill l::r=>l++qA r
 | .wk l::r=>l++qA r
 | .ua t::r=>t::qA r
 | .nk t::r=>t::qA r
 | .prom t _::r=>t::qA r
 | .cut t::r=>t::qA r
 | _::r=>qA r
def mj:RC->Bool
 | .exit _=>true
 | .Ay ..=>true
 | .seq a b=>mj a||mj b
 | .cond _ a b=>mj a||mj b
 | .block _ b=>mj b
 | .loop b=>mj b
 | .gh _ r _=>mj r
 | _=>false
def kM:RC->Bool
 | .ret=>true
 | .seq a b=> !mj a&&kM b
 | .cond _ a b=>kM a&&kM b
 | .block _ b=>kM b
 | .gh _ r _=>kM r
 | _=>false
def b6:RC->List Nat
 | .u6 ops=>uN ops
 | .draw ops=>uN ops
 | .jG ops _=>uN ops
 | .kr ops _ _=>zo ops
 | .seq a b=>if kM b then (if mj a then b6 a else []) else b6 a++b6 b
 | .cond _ a b=>b6 a++b6 b
 | .block _ b=>b6 b
 | .loop b=>b6 b
 | .gh pre r post=>if kM r then [] else qA pre++(b6 r++qA post)
 | _=>[]
theorem C7 {x:Nat}:∀ {a b:List Nat},mg x (a++b)=(mg x a||mg x b)
 | [],b=>rfl
 | y::a,b=>by rw [zaH,mg,mg,C7,Bool.or_assoc]
theorem zY {x:Nat} {a b:List Nat} (h:mg x (a++b)=false):mg x a=false/\mg x b=false:=by
 rw [C7,zbT] at h;exact h
theorem qk {x y:Nat} {a:List Nat} (h:mg x (y::a)=false):x≠y/\mg x a=false:=by
 rw [mg,zbT] at h;refine ⟨?_,h.2⟩;rintro rfl;have:=h.1;simp at this
def bJ (A:List Nat) (t t':T):Prop:=∀ x,mg x A=false->t'.get x=t.get x
theorem bJ.refl {A:List Nat} {t:T}:bJ A t t:=fun _ _=>rfl
theorem bJ.trans {A:List Nat} {a b c:T} (h:bJ A a b) (g:bJ A b c):bJ A a c:=fun x hx=>(g x hx).trans (h x hx)
theorem bJ.yU {A B:List Nat} {a b:T} (h:bJ A a b):bJ (A++B) a b:=fun x hx=>h x (zY hx).1
theorem bJ.AN {A B:List Nat} {a b:T} (h:bJ B a b):bJ (A++B) a b:=fun x hx=>h x (zY hx).2
theorem bJ.cons {A:List Nat} {y:Nat} {a b:T} (h:bJ A a b):bJ (y::A) a b:=fun x hx=>h x (qk hx).2
theorem iR {A:List Nat} {t:T} {d:Nat} {v:AV}:bJ (d::A) t (t.put d v):=by
 intro x hx;have:=(qk hx).1;unfold T.put;split
 ·show T.fj _ x=T.fj t.l x;rw [T.tF,if_neg this]
 ·rfl
theorem x8:∀ {l:List Nat} {t:T},bJ l t (T.fO l t)
 | [],t=>bJ.refl
 | d::l,t=>by
  have h1:bJ (d::l) t ⟨t.sz,T.m6 t.l d⟩:=by
   intro x hx;show T.fj (T.m6 t.l d) x=T.fj t.l x;rw [T.oE,if_neg (qk hx).1]
  exact h1.trans (x8.cons)
theorem oF {d:Option Nat} {A:List Nat} {t:T} {v:AV} {o:bH} (h:o.dst=d) (os:List bH):bJ (uN (o::os)) t (cZ t d v):=by
 cases d with
 | none=>exact bJ.refl
 | some d=>
  rw [uN,h];exact iR
theorem oG {o:bH} {os:List bH} {a b:T} (h:bJ (uN os) a b):bJ (uN (o::os)) a b:=by
 rw [uN]
 cases o.dst with
 | none=>exact h
 | some d=>exact h.cons
theorem rM {Gl:Nat->List AV} {hp:Nat->Bool} {cI:CI} {cH:CH}:∀ {os:List bH} {t:T} {H:List Obj} {t':T} {H':List Obj},bg Gl hp cI cH os t H=some (t',H')->bJ (uN os) t t'
 | [],t,H,t',H',h=>by
  simp only [bg,za1,za4] at h;obtain ⟨rfl,_⟩:=h;exact bJ.refl
 | o::os,t,H,t',H',h=>by
  rw [bg] at h;split at h
  ·split at h
   case h_2=>cases h
   simp only [eo] at h;exact (oF (A:=[]) rfl os).trans (oG (rM h))
  ·exact (oF (A:=[]) rfl os).trans (oG (rM h))
  ·cases h
theorem Fe {Gl:Nat->List AV} {hp:Nat->Bool} {cI:CI} {cH:CH} {bf:List Nat}:∀ {os:List bH} {i:Nat} {rs:List (Nat×(List Obj->Option AV)×AV)} {hs:List (Nat×List Obj×List Obj)} {t:T} {H:List Obj} {t':T} {H':List Obj},g9 Gl hp cI cH bf os i rs hs t H=some (t',H')->bJ (uN os) t t'
 | [],i,rs,hs,t,H,t',H',h=>by
  simp only [g9,za1,za4] at h;obtain ⟨rfl,_⟩:=h;exact bJ.refl
 | o::os,i,rs,hs,t,H,t',H',h=>by
  rw [g9] at h;split at h
  ·cases h
  simp only [eo] at h;split at h
  ·exact (oF (A:=[]) rfl os).trans (oG (Fe h))
  all_goals
   split at h
   case isFalse=>cases h
   exact (oF (A:=[]) rfl os).trans (oG (Fe h))
theorem Lo {Gl:Nat->List AV} {cI:CI} {b:Nat}:∀ {os:List (Nat×bH)} {t:T} {H:List Obj} {t':T} {H':List Obj} {fs:List FP},gF Gl cI b os t H=some (t',H',fs)->bJ (zo os) t t'
 | [],t,H,t',H',fs,h=>by
  simp only [gF,za1,za4] at h;obtain ⟨rfl,_⟩:=h;exact bJ.refl
 | (k,o)::os,t,H,t',H',fs,h=>by
  rw [gF] at h;split at h
  case h_2=>cases h
  simp only [eo] at h;split at h
  case h_2=>cases h
  rename_i hr;simp only [za1,za4] at h;obtain ⟨rfl,_⟩:=h;have ih:=Lo hr;rw [zo]
  cases hd:o.dst with
  | none=>rw [hd] at ih;exact ih
  | some d=>
   rw [hd] at ih;exact bJ.trans (iR (A:=zo os)) ih.cons
theorem C8:∀ {l:List Nat} {s:ST},bJ l s.tmps (vO l s).tmps
 | [],s=>bJ.refl
 | d::l,s=>by
  rw [vO];exact bJ.trans (iR (A:=l)) (C8 (s:=⟨_,_⟩)).cons
theorem MS {b:Nat} {s s':ST} {a:GA} {r:List GA} (h:aG b s a=some s'):bJ (qA (a::r)) s.tmps s'.tmps:=by
 cases a with
 | kill l=>
  simp only [aG,za1] at h;subst h;exact x8.yU
 | wk l=>
  simp only [aG,za1] at h;subst h;exact C8.yU
 | ua t=>
  have k:∀ {s':ST},pI t s=some s'->bJ (qA (.ua t::r)) s.tmps s'.tmps:=by
   intro s' h;unfold pI at h;split at h
   ·split at h
    ·split at h
     ·injection h with h;subst h;exact iR
     ·cases h
    ·cases h
   ·injection h with h;subst h;exact bJ.refl
  rw [aG] at h;split at h
  ·rename_i s1 h1;injection h with h;subst h;exact k h1
  ·injection h with h;subst h;exact bJ.refl
 | nk t=>
  have k:∀ {s':ST},lq t s=some s'->bJ (qA (.nk t::r)) s.tmps s'.tmps:=by
   intro s' h;unfold lq at h;split at h
   ·split at h
    ·split at h
     ·injection h with h;subst h;exact iR
     ·cases h
    ·cases h
   ·cases h
  rw [aG] at h;split at h
  ·rename_i s1 h1;injection h with h;subst h;exact k h1
  ·injection h with h;subst h;exact bJ.refl
 | prom t sz=>
  rw [aG] at h;split at h
  ·injection h with h;subst h;exact iR
  ·injection h with h;subst h;exact bJ.refl
 | cut t=>
  rw [aG] at h;split at h
  ·split at h
   ·split at h
    ·injection h with h;subst h;exact iR
    ·cases h
   ·cases h
  ·cases h
 | kn n=>
  rw [aG] at h;split at h<;>(injection h with h;subst h;exact bJ.refl)
 | sh t=>
  rw [aG] at h;split at h
  ·split at h<;>(injection h with h;subst h;exact bJ.refl)
  ·injection h with h;subst h;exact bJ.refl
 | res t=>
  rw [aG] at h;split at h
  ·split at h<;>(injection h with h;subst h;exact bJ.refl)
  ·injection h with h;subst h;exact bJ.refl
 | o8 t off sz=>
  rw [aG] at h;split at h
  ·split at h
   ·split at h
    ·injection h with h;subst h;exact bJ.refl
    ·cases h
   ·injection h with h;subst h;exact bJ.refl
  ·injection h with h;subst h;exact bJ.refl
 | yR t off=>
  rw [aG] at h;split at h
  ·split at h
   ·split at h
    ·cases h
    split at h
    ·split at h
     ·injection h with h;subst h;exact bJ.refl
     ·cases h
    ·injection h with h;subst h;exact bJ.refl
   ·injection h with h;subst h;exact bJ.refl
  ·injection h with h;subst h;exact bJ.refl
theorem MT {a:GA} {r:List GA} {t t':T} (h:bJ (qA r) t t'):bJ (qA (a::r)) t t':=by
 cases a with
 | kill l=>exact h.AN
 | wk l=>exact h.AN
 | ua t=>exact h.cons
 | nk t=>exact h.cons
 | prom t sz=>exact h.cons
 | cut t=>exact h.cons
 | _=>exact h
theorem rm {b:Nat}:∀ {l:List GA} {s s':ST},cN b l s=some s'->bJ (qA l) s.tmps s'.tmps
 | [],s,s',h=>by
  simp only [cN,za1] at h;subst h;exact bJ.refl
 | a::r,s,s',h=>by
  rw [cN] at h;split at h
  case h_2=>cases h
  rename_i s1 h1;exact (MS h1).trans (MT (rm h))
theorem tG (E:Env) (hp:Nat->Bool):∀ (n:Nat) (c:RC) (b:Nat) (s:ST) (i:Nat) (s':ST),ak E hp n c b s=some (.exit i,s')->mj c=true
 | 0,c,b,s,i,s',h=>by simp [ak] at h
 | n+1,c,b,s,i,s',h=>by
  have ih:=tG E hp n
  cases c with
  | bad=>simp [ak] at h
  | skip=>simp [ak] at h
  | ret=>simp [ak] at h
  | exit i=>rfl
  | seq x y=>
   rw [ak] at h;show (mj x||mj y)=true;split at h
   ·rw [ih _ _ _ _ _ h,zbX]
   ·rw [ih _ _ _ _ _ h,Bool.true_or]
  | cond x p q=>
   rw [ak] at h;show (mj p||mj q)=true;split at h
   ·rw [ih _ _ _ _ _ h,Bool.true_or]
   ·rw [ih _ _ _ _ _ h,zbX]
   ·cases h
  | block i p=>
   show mj p=true;rw [ak] at h;split at h
   ·rename_i j s1 h1;exact ih _ _ _ _ _ h1
   ·exact ih _ _ _ _ _ h
  | loop p=>
   have ihl:=ih (.loop p);show mj p=true;rw [ak] at h;split at h
   ·exact ihl _ _ _ _ h
   ·exact ih _ _ _ _ _ h
  | gh pre r post=>
   show mj r=true;rw [ak] at h;split at h
   case h_2=>cases h
   split at h
   ·split at h
    ·cases h
    ·cases h
   ·exact ih _ _ _ _ _ h
  | Ay g ps as body=>rfl
  | u6 ops=>rw [ak] at h;split at h<;>cases h
  | draw ops=>rw [ak] at h;split at h<;>cases h
  | jG ops bf=>rw [ak] at h;split at h<;>cases h
  | kr ops k ps=>
   rw [ak] at h;split at h
   ·split at h<;>cases h
   ·cases h
theorem oH (E:Env) (hp:Nat->Bool):∀ (n:Nat) (c:RC) (b:Nat) (s:ST) (e:Ex) (s':ST),ak E hp n c b s=some (e,s')->kM c=true->e= .ret
 | 0,c,b,s,e,s',h,hr=>by simp [ak] at h
 | n+1,c,b,s,e,s',h,hr=>by
  have ih:=oH E hp n
  cases c with
  | ret=>simp only [ak,za1,za4] at h;exact h.1.symm
  | seq x y=>
   have hr:(!mj x&&kM y)=true:=hr;rw [za0] at hr;rw [ak] at h;split at h
   ·exact ih _ _ _ _ _ h hr.2
   ·rename_i hne
    cases e with
    | ret=>rfl
    | normal=>exact (hne _ h).elim
    | exit i=>rw [tG E hp n _ _ _ _ _ h] at hr;cases hr.1
  | cond x p q=>
   have hr:(kM p&&kM q)=true:=hr;rw [za0] at hr;rw [ak] at h;split at h
   ·exact ih _ _ _ _ _ h hr.1
   ·exact ih _ _ _ _ _ h hr.2
   ·cases h
  | block i p=>
   have hr:kM p=true:=hr;rw [ak] at h;split at h
   ·rename_i j s1 h1;cases ih _ _ _ _ _ h1 hr
   ·exact ih _ _ _ _ _ h hr
  | gh pre r post=>
   have hr:kM r=true:=hr;rw [ak] at h;split at h
   case h_2=>cases h
   split at h
   ·rename_i s1 h1;cases ih _ _ _ _ _ h1 hr
   ·exact ih _ _ _ _ _ h hr
  | _=>cases hr
theorem zZ (E:Env) (hp:Nat->Bool):∀ (n:Nat) (c:RC) (b:Nat) (s:ST) (e:Ex) (s':ST),ak E hp n c b s=some (e,s')->e≠ .ret->bJ (b6 c) s.tmps s'.tmps
 | 0,c,b,s,e,s',h,hne=>by simp [ak] at h
 | n+1,c,b,s,e,s',h,hne=>by
  have ih:=zZ E hp n
  cases c with
  | bad=>simp [ak] at h
  | skip=>simp only [ak,za1,za4] at h;obtain ⟨_,rfl⟩:=h;exact bJ.refl
  | ret=>simp only [ak,za1,za4] at h;obtain ⟨_,rfl⟩:=h;exact bJ.refl
  | exit i=>simp only [ak,za1,za4] at h;obtain ⟨_,rfl⟩:=h;exact bJ.refl
  | seq x y=>
   show bJ (if kM y then (if mj x then b6 x else []) else b6 x++b6 y) _ _;rw [ak] at h;split at h
   ·rename_i s1 h1;have hy:kM y=false:=by
     cases hy:kM y with
     | false=>rfl
     | true=>exact (hne (oH E hp n _ _ _ _ _ h hy)).elim
    rw [hy];exact (ih _ _ _ _ _ h1 nofun).yU.trans (ih _ _ _ _ _ h hne).AN
   ·rename_i hn;have h1:=ih _ _ _ _ _ h hne;split
    ·cases e with
     | ret=>exact (hne rfl).elim
     | normal=>exact (hn _ h).elim
     | exit i=>rw [tG E hp n _ _ _ _ _ h];exact h1
    ·exact h1.yU
  | cond x p q=>
   rw [ak] at h;split at h
   ·exact (ih _ _ _ _ _ h hne).yU
   ·exact (ih _ _ _ _ _ h hne).AN
   ·cases h
  | block i p=>
   show bJ (b6 p) _ _;rw [ak] at h;split at h
   ·rename_i j s1 h1;split at h<;>(simp only [za1,za4] at h;obtain ⟨_,rfl⟩:=h;exact ih _ _ _ _ _ h1 nofun)
   ·exact ih _ _ _ _ _ h hne
  | loop p=>
   have ihl:=ih (.loop p) b;show bJ (b6 p) _ _;rw [ak] at h;split at h
   ·rename_i s1 h1;exact bJ.trans (ih _ _ _ _ _ h1 nofun) (ihl _ _ _ h hne)
   ·exact ih _ _ _ _ _ h hne
  | u6 ops=>
   rw [ak] at h;split at h
   case h_2=>cases h
   rename_i h1;simp only [za1,za4] at h;obtain ⟨_,rfl⟩:=h;exact rM h1
  | draw ops=>
   rw [ak] at h;split at h
   case h_2=>cases h
   rename_i h1;simp only [za1,za4] at h;obtain ⟨_,rfl⟩:=h;exact rM h1
  | jG ops bf=>
   rw [ak] at h;split at h
   case h_2=>cases h
   rename_i h1;simp only [za1,za4] at h;obtain ⟨_,rfl⟩:=h;exact Fe h1
  | kr ops k ps=>
   rw [ak] at h;split at h
   case h_2=>cases h
   rename_i h1;split at h
   case isFalse=>cases h
   simp only [za1,za4] at h;obtain ⟨_,rfl⟩:=h;exact Lo h1
  | gh pre r post=>
   show bJ (if kM r then [] else qA pre++(b6 r++qA post)) _ _;rw [ak] at h;split at h
   case h_2=>cases h
   rename_i s0 h0;split at h
   ·rename_i s1 h1;have hy:kM r=false:=by
     cases hy:kM r with
     | false=>rfl
     | true=>cases oH E hp n _ _ _ _ _ h1 hy
    rw [hy];split at h
    case h_2=>cases h
    rename_i s2 h2;simp only [za1,za4] at h;obtain ⟨_,rfl⟩:=h;exact (rm h0).yU.trans ((bJ.yU (ih _ _ _ _ _ h1 nofun)).AN.trans (bJ.AN (rm h2)).AN)
   ·have hy:kM r=false:=by
     cases hy:kM r with
     | false=>rfl
     | true=>exact (hne (oH E hp n _ _ _ _ _ h hy)).elim
    rw [hy];exact (rm h0).yU.trans (bJ.yU (ih _ _ _ _ _ h hne)).AN
  | Ay g ps as body=>
   rw [ak] at h;split at h
   case h_2=>cases h
   split at h
   case h_2=>cases h
   split at h
   case h_2=>cases h
   simp only [za1,za4] at h;obtain ⟨_,rfl⟩:=h;exact bJ.refl
theorem oq {E:Env} {hp:Nat->Bool} {c:RC} {b:Nat} {Q:Ex->ST->Prop} {s:ST} (h:WP E hp c b Q s):WP E hp c b (fun e s'=>Q e s'/\(e≠ .ret->bJ (b6 c) s.tmps s'.tmps)) s:=by
 obtain ⟨n,e,s',h1,h2⟩:=h;exact ⟨n,e,s',h1,h2,zZ E hp n _ _ _ _ _ h1⟩
end oZ
