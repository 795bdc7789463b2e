/- Slots that code does not write to are kept. No condition. -/
import Derived.Test.YtafgdbaekppjcaaGreatDoorDnF
set_option linter.unusedSectionVars false
set_option linter.unusedVariables false
set_option linter.unusedSimpArgs false
namespace nT
open Go hiding Obj mark
open Go.Pl Go.Am Go.Am.As
set_option linter.unusedVariables false
def sQ:List bD->List Nat
 | []=>[]
 | o::r=>match o.dst with
  | some d=>d::sQ r
  | none=>sQ r
def xk:List (Nat×bD)->List Nat
 | []=>[]
 | o::r=>match o.2.dst with
  | some d=>d::xk r
  | none=>xk r
def o6:List GA->List Nat
 | []=>[]
 | .kill l::r=>l++o6 r
 | .wk l::r=>l++o6 r
 | .jx t::r=>t::o6 r
 | .aB t::r=>t::o6 r
 | .prom t _::r=>t::o6 r
 | .cut t::r=>t::o6 r
 | _::r=>o6 r
def kR:RC->Bool
 | .exit _=>true
 | .yB ..=>true
 | .seq a b=>kR a||kR b
 | .cond _ a b=>kR a||kR b
 | .block _ b=>kR b
 | .loop b=>kR b
 | .gh _ r _=>kR r
 | _=>false
def jZ:RC->Bool
 | .ret=>true
 | .seq a b=> !kR a&&jZ b
 | .cond _ a b=>jZ a&&jZ b
 | .block _ b=>jZ b
 | .gh _ r _=>jZ r
 | _=>false
def b9:RC->List Nat
 | .sZ ops=>sQ ops
 | .draw ops=>sQ ops
 | .iY ops _=>sQ ops
 | .jI ops _ _=>xk ops
 | .seq a b=>if jZ b then (if kR a then b9 a else []) else b9 a++b9 b
 | .cond _ a b=>b9 a++b9 b
 | .block _ b=>b9 b
 | .loop b=>b9 b
 | .gh pre r post=>if jZ r then [] else o6 pre++(b9 r++o6 post)
 | _=>[]
theorem Bd {x:Nat}:∀ {a b:List Nat},kP x (a++b)=(kP x a||kP x b)
 | [],b=>rfl
 | y::a,b=>by rw [List.cons_append,kP,kP,Bd,Bool.or_assoc]
theorem xQ {x:Nat} {a b:List Nat} (h:kP x (a++b)=false):kP x a=false/\kP x b=false:=by
 rw [Bd,Bool.or_eq_false_iff] at h;exact h
theorem oS {x y:Nat} {a:List Nat} (h:kP x (y::a)=false):x≠y/\kP x a=false:=by
 rw [kP,Bool.or_eq_false_iff] at h;refine ⟨?_,h.2⟩;rintro rfl;have:=h.1;simp at this
def bG (A:List Nat) (t t':T):Prop:=∀ x,kP x A=false->t'.get x=t.get x
theorem bG.refl {A:List Nat} {t:T}:bG A t t:=fun _ _=>rfl
theorem bG.trans {A:List Nat} {a b c:T} (h:bG A a b) (g:bG A b c):bG A a c:=fun x hx=>(g x hx).trans (h x hx)
theorem bG.wN {A B:List Nat} {a b:T} (h:bG A a b):bG (A++B) a b:=fun x hx=>h x (xQ hx).1
theorem bG.yR {A B:List Nat} {a b:T} (h:bG B a b):bG (A++B) a b:=fun x hx=>h x (xQ hx).2
theorem bG.cons {A:List Nat} {y:Nat} {a b:T} (h:bG A a b):bG (y::A) a b:=fun x hx=>h x (oS hx).2
theorem g9 {A:List Nat} {t:T} {d:Nat} {v:AV}:bG (d::A) t (t.put d v):=by
 intro x hx;have:=(oS hx).1;unfold T.put;split
 ·show T.eK _ x=T.eK t.l x;rw [T.rL,if_neg this]
 ·rfl
theorem vL:∀ {l:List Nat} {t:T},bG l t (T.fe l t)
 | [],t=>bG.refl
 | d::l,t=>by
  have h1:bG (d::l) t ⟨t.sz,T.lT t.l d⟩:=by
   intro x hx;show T.eK (T.lT t.l d) x=T.eK t.l x;rw [T.nv,if_neg (oS hx).1]
  exact h1.trans (vL.cons)
theorem nw {d:Option Nat} {A:List Nat} {t:T} {v:AV} {o:bD} (h:o.dst=d) (os:List bD):bG (sQ (o::os)) t (cP t d v):=by
 cases d with
 | none=>exact bG.refl
 | some d=>
  rw [sQ,h];exact g9
theorem nx {o:bD} {os:List bD} {a b:T} (h:bG (sQ os) a b):bG (sQ (o::os)) a b:=by
 rw [sQ]
 cases o.dst with
 | none=>exact h
 | some d=>exact h.cons
theorem ql {Gl:Nat->List AV} {hp:Nat->Bool} {cI:CI} {cH:CH}:∀ {os:List bD} {t:T} {H:List Obj} {t':T} {H':List Obj},aZ Gl hp cI cH os t H=some (t',H')->bG (sQ os) t t'
 | [],t,H,t',H',h=>by
  simp only [aZ,Option.some.injEq,Prod.mk.injEq] at h;obtain ⟨rfl,_⟩:=h;exact bG.refl
 | o::os,t,H,t',H',h=>by
  rw [aZ] at h;split at h
  ·split at h
   case h_2=>cases h
   simp only [dH] at h;exact (nw (A:=[]) rfl os).trans (nx (ql h))
  ·exact (nw (A:=[]) rfl os).trans (nx (ql h))
  ·cases h
theorem Dg {Gl:Nat->List AV} {hp:Nat->Bool} {cI:CI} {cH:CH} {bf:List Nat}:∀ {os:List bD} {i:Nat} {rs:List (Nat×(List Obj->Option AV)×AV)} {hs:List (Nat×List Obj×List Obj)} {t:T} {H:List Obj} {t':T} {H':List Obj},gC Gl hp cI cH bf os i rs hs t H=some (t',H')->bG (sQ os) t t'
 | [],i,rs,hs,t,H,t',H',h=>by
  simp only [gC,Option.some.injEq,Prod.mk.injEq] at h;obtain ⟨rfl,_⟩:=h;exact bG.refl
 | o::os,i,rs,hs,t,H,t',H',h=>by
  rw [gC] at h;split at h
  ·cases h
  simp only [dH] at h;split at h
  ·exact (nw (A:=[]) rfl os).trans (nx (Dg h))
  all_goals
   split at h
   case isFalse=>cases h
   exact (nw (A:=[]) rfl os).trans (nx (Dg h))
theorem IS {Gl:Nat->List AV} {cI:CI} {b:Nat}:∀ {os:List (Nat×bD)} {t:T} {H:List Obj} {t':T} {H':List Obj} {fs:List FP},fW Gl cI b os t H=some (t',H',fs)->bG (xk os) t t'
 | [],t,H,t',H',fs,h=>by
  simp only [fW,Option.some.injEq,Prod.mk.injEq] at h;obtain ⟨rfl,_⟩:=h;exact bG.refl
 | (k,o)::os,t,H,t',H',fs,h=>by
  rw [fW] at h;split at h
  case h_2=>cases h
  simp only [dH] at h;split at h
  case h_2=>cases h
  rename_i hr;simp only [Option.some.injEq,Prod.mk.injEq] at h;obtain ⟨rfl,_⟩:=h;have ih:=IS hr;rw [xk]
  cases hd:o.dst with
  | none=>rw [hd] at ih;exact ih
  | some d=>
   rw [hd] at ih;exact bG.trans (g9 (A:=xk os)) ih.cons
theorem Be:∀ {l:List Nat} {s:ST},bG l s.tmps (tS l s).tmps
 | [],s=>bG.refl
 | d::l,s=>by
  rw [tS];exact bG.trans (g9 (A:=l)) (Be (s:=⟨_,_⟩)).cons
theorem Km {b:Nat} {s s':ST} {a:GA} {r:List GA} (h:aG b s a=some s'):bG (o6 (a::r)) s.tmps s'.tmps:=by
 cases a with
 | kill l=>
  simp only [aG,Option.some.injEq] at h;subst h;exact vL.wN
 | wk l=>
  simp only [aG,Option.some.injEq] at h;subst h;exact Be.wN
 | jx t=>
  have k:∀ {s':ST},om t s=some s'->bG (o6 (.jx t::r)) s.tmps s'.tmps:=by
   intro s' h;unfold om at h;split at h
   ·split at h
    ·split at h
     ·injection h with h;subst h;exact g9
     ·cases h
    ·cases h
   ·injection h with h;subst h;exact bG.refl
  rw [aG] at h;split at h
  ·rename_i s1 h1;injection h with h;subst h;exact k h1
  ·injection h with h;subst h;exact bG.refl
 | aB t=>
  have k:∀ {s':ST},kg t s=some s'->bG (o6 (.aB t::r)) s.tmps s'.tmps:=by
   intro s' h;unfold kg at h;split at h
   ·split at h
    ·split at h
     ·injection h with h;subst h;exact g9
     ·cases h
    ·cases h
   ·cases h
  rw [aG] at h;split at h
  ·rename_i s1 h1;injection h with h;subst h;exact k h1
  ·injection h with h;subst h;exact bG.refl
 | prom t sz=>
  rw [aG] at h;split at h
  ·injection h with h;subst h;exact g9
  ·injection h with h;subst h;exact bG.refl
 | cut t=>
  rw [aG] at h;split at h
  ·split at h
   ·split at h
    ·injection h with h;subst h;exact g9
    ·cases h
   ·cases h
  ·cases h
 | aj n=>
  rw [aG] at h;split at h<;>(injection h with h;subst h;exact bG.refl)
 | sh t=>
  rw [aG] at h;split at h
  ·split at h<;>(injection h with h;subst h;exact bG.refl)
  ·injection h with h;subst h;exact bG.refl
 | res t=>
  rw [aG] at h;split at h
  ·split at h<;>(injection h with h;subst h;exact bG.refl)
  ·injection h with h;subst h;exact bG.refl
 | fK t off sz=>
  rw [aG] at h;split at h
  ·split at h
   ·split at h
    ·injection h with h;subst h;exact bG.refl
    ·cases h
   ·injection h with h;subst h;exact bG.refl
  ·injection h with h;subst h;exact bG.refl
 | iQ t off=>
  rw [aG] at h;split at h
  ·split at h
   ·split at h
    ·cases h
    split at h
    ·split at h
     ·injection h with h;subst h;exact bG.refl
     ·cases h
    ·injection h with h;subst h;exact bG.refl
   ·injection h with h;subst h;exact bG.refl
  ·injection h with h;subst h;exact bG.refl
theorem Ko {a:GA} {r:List GA} {t t':T} (h:bG (o6 r) t t'):bG (o6 (a::r)) t t':=by
 cases a with
 | kill l=>exact h.yR
 | wk l=>exact h.yR
 | jx t=>exact h.cons
 | aB t=>exact h.cons
 | prom t sz=>exact h.cons
 | cut t=>exact h.cons
 | _=>exact h
theorem pV {b:Nat}:∀ {l:List GA} {s s':ST},cD b l s=some s'->bG (o6 l) s.tmps s'.tmps
 | [],s,s',h=>by
  simp only [cD,Option.some.injEq] at h;subst h;exact bG.refl
 | a::r,s,s',h=>by
  rw [cD] at h;split at h
  case h_2=>cases h
  rename_i s1 h1;exact (Km h1).trans (Ko (pV h))
theorem rM (E:Env) (hp:Nat->Bool):∀ (n:Nat) (c:RC) (b:Nat) (s:ST) (i:Nat) (s':ST),aq E hp n c b s=some (.exit i,s')->kR c=true
 | 0,c,b,s,i,s',h=>by simp [aq] at h
 | n+1,c,b,s,i,s',h=>by
  have ih:=rM E hp n
  cases c with
  | bad=>simp [aq] at h
  | skip=>simp [aq] at h
  | ret=>simp [aq] at h
  | exit i=>rfl
  | seq x y=>
   rw [aq] at h;show (kR x||kR y)=true;split at h
   ·rw [ih _ _ _ _ _ h,Bool.or_true]
   ·rw [ih _ _ _ _ _ h,Bool.true_or]
  | cond x p q=>
   rw [aq] at h;show (kR p||kR q)=true;split at h
   ·rw [ih _ _ _ _ _ h,Bool.true_or]
   ·rw [ih _ _ _ _ _ h,Bool.or_true]
   ·cases h
  | block i p=>
   show kR p=true;rw [aq] at h;split at h
   ·rename_i j s1 h1;exact ih _ _ _ _ _ h1
   ·exact ih _ _ _ _ _ h
  | loop p=>
   have ihl:=ih (.loop p);show kR p=true;rw [aq] at h;split at h
   ·exact ihl _ _ _ _ h
   ·exact ih _ _ _ _ _ h
  | gh pre r post=>
   show kR r=true;rw [aq] at h;split at h
   case h_2=>cases h
   split at h
   ·split at h
    ·cases h
    ·cases h
   ·exact ih _ _ _ _ _ h
  | yB g ps as body=>rfl
  | sZ ops=>rw [aq] at h;split at h<;>cases h
  | draw ops=>rw [aq] at h;split at h<;>cases h
  | iY ops bf=>rw [aq] at h;split at h<;>cases h
  | jI ops k ps=>
   rw [aq] at h;split at h
   ·split at h<;>cases h
   ·cases h
theorem ny (E:Env) (hp:Nat->Bool):∀ (n:Nat) (c:RC) (b:Nat) (s:ST) (e:Ex) (s':ST),aq E hp n c b s=some (e,s')->jZ c=true->e= .ret
 | 0,c,b,s,e,s',h,hr=>by simp [aq] at h
 | n+1,c,b,s,e,s',h,hr=>by
  have ih:=ny E hp n
  cases c with
  | ret=>simp only [aq,Option.some.injEq,Prod.mk.injEq] at h;exact h.1.symm
  | seq x y=>
   have hr:(!kR x&&jZ y)=true:=hr;rw [Bool.and_eq_true] at hr;rw [aq] at h;split at h
   ·exact ih _ _ _ _ _ h hr.2
   ·rename_i hne
    cases e with
    | ret=>rfl
    | normal=>exact (hne _ h).elim
    | exit i=>rw [rM E hp n _ _ _ _ _ h] at hr;cases hr.1
  | cond x p q=>
   have hr:(jZ p&&jZ q)=true:=hr;rw [Bool.and_eq_true] at hr;rw [aq] at h;split at h
   ·exact ih _ _ _ _ _ h hr.1
   ·exact ih _ _ _ _ _ h hr.2
   ·cases h
  | block i p=>
   have hr:jZ p=true:=hr;rw [aq] at h;split at h
   ·rename_i j s1 h1;cases ih _ _ _ _ _ h1 hr
   ·exact ih _ _ _ _ _ h hr
  | gh pre r post=>
   have hr:jZ r=true:=hr;rw [aq] at h;split at h
   case h_2=>cases h
   split at h
   ·rename_i s1 h1;cases ih _ _ _ _ _ h1 hr
   ·exact ih _ _ _ _ _ h hr
  | _=>cases hr
theorem xR (E:Env) (hp:Nat->Bool):∀ (n:Nat) (c:RC) (b:Nat) (s:ST) (e:Ex) (s':ST),aq E hp n c b s=some (e,s')->e≠ .ret->bG (b9 c) s.tmps s'.tmps
 | 0,c,b,s,e,s',h,hne=>by simp [aq] at h
 | n+1,c,b,s,e,s',h,hne=>by
  have ih:=xR E hp n
  cases c with
  | bad=>simp [aq] at h
  | skip=>simp only [aq,Option.some.injEq,Prod.mk.injEq] at h;obtain ⟨_,rfl⟩:=h;exact bG.refl
  | ret=>simp only [aq,Option.some.injEq,Prod.mk.injEq] at h;obtain ⟨_,rfl⟩:=h;exact bG.refl
  | exit i=>simp only [aq,Option.some.injEq,Prod.mk.injEq] at h;obtain ⟨_,rfl⟩:=h;exact bG.refl
  | seq x y=>
   show bG (if jZ y then (if kR x then b9 x else []) else b9 x++b9 y) _ _;rw [aq] at h;split at h
   ·rename_i s1 h1;have hy:jZ y=false:=by
     cases hy:jZ y with
     | false=>rfl
     | true=>exact (hne (ny E hp n _ _ _ _ _ h hy)).elim
    rw [hy];exact (ih _ _ _ _ _ h1 nofun).wN.trans (ih _ _ _ _ _ h hne).yR
   ·rename_i hn;have h1:=ih _ _ _ _ _ h hne;split
    ·cases e with
     | ret=>exact (hne rfl).elim
     | normal=>exact (hn _ h).elim
     | exit i=>rw [rM E hp n _ _ _ _ _ h];exact h1
    ·exact h1.wN
  | cond x p q=>
   rw [aq] at h;split at h
   ·exact (ih _ _ _ _ _ h hne).wN
   ·exact (ih _ _ _ _ _ h hne).yR
   ·cases h
  | block i p=>
   show bG (b9 p) _ _;rw [aq] at h;split at h
   ·rename_i j s1 h1;split at h<;>(simp only [Option.some.injEq,Prod.mk.injEq] at h;obtain ⟨_,rfl⟩:=h;exact ih _ _ _ _ _ h1 nofun)
   ·exact ih _ _ _ _ _ h hne
  | loop p=>
   have ihl:=ih (.loop p) b;show bG (b9 p) _ _;rw [aq] at h;split at h
   ·rename_i s1 h1;exact bG.trans (ih _ _ _ _ _ h1 nofun) (ihl _ _ _ h hne)
   ·exact ih _ _ _ _ _ h hne
  | sZ ops=>
   rw [aq] at h;split at h
   case h_2=>cases h
   rename_i h1;simp only [Option.some.injEq,Prod.mk.injEq] at h;obtain ⟨_,rfl⟩:=h;exact ql h1
  | draw ops=>
   rw [aq] at h;split at h
   case h_2=>cases h
   rename_i h1;simp only [Option.some.injEq,Prod.mk.injEq] at h;obtain ⟨_,rfl⟩:=h;exact ql h1
  | iY ops bf=>
   rw [aq] at h;split at h
   case h_2=>cases h
   rename_i h1;simp only [Option.some.injEq,Prod.mk.injEq] at h;obtain ⟨_,rfl⟩:=h;exact Dg h1
  | jI ops k ps=>
   rw [aq] at h;split at h
   case h_2=>cases h
   rename_i h1;split at h
   case isFalse=>cases h
   simp only [Option.some.injEq,Prod.mk.injEq] at h;obtain ⟨_,rfl⟩:=h;exact IS h1
  | gh pre r post=>
   show bG (if jZ r then [] else o6 pre++(b9 r++o6 post)) _ _;rw [aq] at h;split at h
   case h_2=>cases h
   rename_i s0 h0;split at h
   ·rename_i s1 h1;have hy:jZ r=false:=by
     cases hy:jZ r with
     | false=>rfl
     | true=>cases ny E hp n _ _ _ _ _ h1 hy
    rw [hy];split at h
    case h_2=>cases h
    rename_i s2 h2;simp only [Option.some.injEq,Prod.mk.injEq] at h;obtain ⟨_,rfl⟩:=h;exact (pV h0).wN.trans ((bG.wN (ih _ _ _ _ _ h1 nofun)).yR.trans (bG.yR (pV h2)).yR)
   ·have hy:jZ r=false:=by
     cases hy:jZ r with
     | false=>rfl
     | true=>exact (hne (ny E hp n _ _ _ _ _ h hy)).elim
    rw [hy];exact (pV h0).wN.trans (bG.wN (ih _ _ _ _ _ h hne)).yR
  | yB g ps as body=>
   rw [aq] at h;split at h
   case h_2=>cases h
   split at h
   case h_2=>cases h
   split at h
   case h_2=>cases h
   simp only [Option.some.injEq,Prod.mk.injEq] at h;obtain ⟨_,rfl⟩:=h;exact bG.refl
theorem ng {E:Env} {hp:Nat->Bool} {c:RC} {b:Nat} {Q:Ex->ST->Prop} {s:ST} (h:WP E hp c b Q s):WP E hp c b (fun e s'=>Q e s'/\(e≠ .ret->bG (b9 c) s.tmps s'.tmps)) s:=by
 obtain ⟨n,e,s',h1,h2⟩:=h;exact ⟨n,e,s',h1,h2,xR E hp n _ _ _ _ _ h1⟩
end nT
