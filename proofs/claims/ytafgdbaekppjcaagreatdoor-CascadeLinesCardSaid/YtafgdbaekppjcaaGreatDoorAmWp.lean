/- Proofs about what the machine computes: weakest preconditions over code, by rules. No condition. -/
import Derived.Test.YtafgdbaekppjcaaGreatDoorAmZ1
set_option linter.unusedSectionVars false
set_option linter.unusedVariables false
set_option linter.unusedSimpArgs false
namespace Go.Am.As
section
variable {G:Nat→List AV} {hp:Nat→Bool}
theorem runOpsT_le {a b:CI} {c d:CH} (h1:a.le b) (h2:c.le d):∀ (os:List ROp) {t:T} {H:List Obj} {r},runOpsT G hp a c os t H=some r→runOpsT G hp b d os t H=some r
 | [],_,_,_,h=>h
 | o::os,t,H,r,h=>by
  rw [runOpsT] at h ⊢
  split at h
  ·rename_i hw
   try simp only [hw]
   split at h
   case h_2=>simp at h
   rename_i v H1 he
   rw [evalOpe_le h1 h2 he]
   simp only [frc_eq] at h ⊢
   exact runOpsT_le h1 h2 os h
  ·rename_i hw
   try simp only [hw]
   exact runOpsT_le h1 h2 os h
  ·simp at h
theorem runXT_le {a b:CI} {c d:CH} (h1:a.le b) (h2:c.le d) (bf:List Nat):∀ (os:List ROp) {i:Nat} {rs:List (Nat×(List Obj→Option AV)×AV)} {hs:List (Nat×List Obj×List Obj)} {t:T} {H:List Obj} {r},runXT G hp a c bf os i rs hs t H=some r→runXT G hp b d bf os i rs hs t H=some r
 | [],_,_,_,_,_,_,h=>h
 | o::os,i,rs,hs,t,H,r,h=>by
  rw [runXT] at h ⊢
  split at h
  ·simp at h
  rename_i v H1 ha
  have ha':actAT G hp b d o t H=some (v,H1):=by
   unfold actAT at ha ⊢
   split at ha
   ·rename_i hw;try rw [hw]
    exact evalOpe_le h1 h2 ha
   ·exact ha
   ·simp at ha
  rw [ha']
  simp only [frc_eq] at h ⊢
  cases hk:o.op.kind<;>rw [hk] at h<;>dsimp only at h ⊢
  ·exact runXT_le h1 h2 bf os h
  all_goals
   split at h
   case isFalse=>simp at h
   rename_i hc
   rw [if_pos hc]
   exact runXT_le h1 h2 bf os h
theorem actDT_le {a b:CI} (h1:a.le b) {pl:Nat} {o:ROp} {t:T} {H:List Obj} {r} (h:actDT G a pl o t H=some r):actDT G b pl o t H=some r:=by
 unfold actDT at h ⊢
 split at h
 ·rename_i hw
  try simp only [hw]
  split at h
  case isFalse=>simp at h
  rename_i hp'
  rw [if_pos hp']
  split at h
  case h_2=>simp at h
  rename_i he
  rw [evalDe_le h1 he]
  exact h
 ·rename_i hw;(try simp only [hw]);exact h
 ·simp at h
theorem runDT_le {a b:CI} (h1:a.le b) {k:Nat}:∀ (os:List (Nat×ROp)) {t:T} {H:List Obj} {r},runDT G a k os t H=some r→runDT G b k os t H=some r
 | [],_,_,_,h=>h
 | (p,o)::os,t,H,r,h=>by
  rw [runDT] at h ⊢
  split at h
  case h_2=>simp at h
  rename_i v H1 f ha
  rw [actDT_le h1 ha]
  simp only [frc_eq] at h ⊢
  split at h
  case h_2=>simp at h
  rename_i hr
  rw [runDT_le h1 os hr]
  exact h
end
def EXT.le (a b:EXT):Prop:=∀ c k s r,a c k s=some r→b c k s=some r
theorem cMkT_mono {a b:EXT} (h:a.le b) {rf:RF} {xs:List AV} {r:AV} (hr:cMkT a rf xs=some r):cMkT b rf xs=some r:=by
 unfold cMkT at hr ⊢
 split at hr
 case h_2=>simp at hr
 rename_i as
 split at hr
 case isFalse=>simp at hr
 rename_i hc
 change (if as.length=rf.nargs∧rf.nargs≤rf.ntmps then _ else none)=some r
 rw [if_pos hc]
 cases he:a rf.body 0 ⟨startT rf as,[]⟩ with
 | none=>rw [he] at hr;simp at hr
 | some q=>rw [he] at hr;rw [h _ _ _ _ he];exact hr
theorem cIT_mono (fns:Nat→Option RF) {a b:EXT} (h:a.le b):(cIT fns a).le (cIT fns b):=by
 intro f xs r hr
 unfold cIT at hr ⊢
 split at hr
 case h_2=>simp at hr
 rename_i rf hrf
 try simp only [hrf]
 split at hr
 case isFalse=>rename_i hc;rw [if_neg hc];exact cMkT_mono h hr
 rename_i hc
 rw [if_pos hc]
 cases he:a rf.body 0 ⟨startT rf xs,[]⟩ with
 | none=>rw [he] at hr;simp at hr
 | some q=>rw [he] at hr;rw [h _ _ _ _ he];exact hr
theorem rndT_mono {a b:EXT} (h:a.le b) {xs:List AV} {H:List Obj} {r:AV×List Obj} (e:rndT a xs H=some r):rndT b xs H=some r:=by
 unfold rndT at e ⊢
 split at e
 case h_2=>simp at e
 rename_i l xs
 split at e
 case h_2=>simp at e
 rename_i t ps asg body hl
 try simp only [hl]
 split at e
 case isFalse=>simp at e
 rename_i hlen
 rw [if_pos hlen]
 split at e
 case h_2=>simp at e
 rename_i s1 h1
 rw [h _ _ _ _ h1];(try dsimp only)
 split at e
 case h_2=>simp at e
 rename_i H1 hH1
 try simp only [hH1]
 split at e
 ·rename_i s2 h2
  rw [h _ _ _ _ h2];exact e
 ·rename_i e' s2 hne h2
  rw [h _ _ _ _ h2]
  cases e' with
  | normal=>exact (hne rfl).elim
  | exit i=>exact e
  | ret=>exact e
 ·simp at e
theorem cHT_mono (fns:Nat→Option RF) {a b:EXT} (h:a.le b):(cHT fns a).le (cHT fns b):=by
 intro f xs H r hr
 unfold cHT at hr ⊢
 cases f with
 | none=>exact rndT_mono h hr
 | some f=>
 dsimp only at hr ⊢
 split at hr
 case h_2=>simp at hr
 rename_i rf hrf
 try simp only [hrf]
 split at hr
 case isFalse=>simp at hr
 rename_i hc
 rw [if_pos hc]
 cases he:a rf.body H.length ⟨startT rf xs,H⟩ with
 | none=>rw [he] at hr;simp at hr
 | some q=>rw [he] at hr;rw [h _ _ _ _ he];exact hr
theorem execT_succ (E:Env) (hp:Nat→Bool):∀ n,EXT.le (execT E hp n) (execT E hp (n+1))
 | 0=>by intro c k s r h;simp [execT] at h
 | n+1=>by
  have ih:=execT_succ E hp n
  intro c k s r h
  cases c with
  | bad=>simp [execT] at h
  | skip=>exact h
  | ret=>exact h
  | exit i=>exact h
  | seq a b=>
   rw [execT] at h ⊢
   split at h
   ·rename_i s1 h1;rw [ih _ _ _ _ h1];exact ih _ _ _ _ h
   ·rename_i hne
    cases r with
    | mk e s1=>
     rw [ih _ _ _ _ h]
     cases e with
     | normal=>exact (hne _ h).elim
     | _=>rfl
  | cond x a b=>
   rw [execT] at h ⊢
   split at h
   ·rename_i hx;(try simp only [hx]);exact ih _ _ _ _ h
   ·rename_i hx;(try simp only [hx]);exact ih _ _ _ _ h
   ·simp at h
  | block i b=>
   rw [execT] at h ⊢
   split at h
   ·rename_i j s1 h1;rw [ih _ _ _ _ h1];exact h
   ·rename_i hne
    cases r with
    | mk e s1=>
     rw [ih _ _ _ _ h]
     cases e with
     | exit j=>exact (hne _ _ h).elim
     | _=>rfl
  | loop b=>
   rw [execT] at h ⊢
   split at h
   ·rename_i s1 h1;rw [ih _ _ _ _ h1];exact ih _ _ _ _ h
   ·rename_i hne
    cases r with
    | mk e s1=>
     rw [ih _ _ _ _ h]
     cases e with
     | normal=>exact (hne _ h).elim
     | _=>rfl
  | reg ops=>
   rw [execT] at h ⊢
   split at h
   case h_2=>simp at h
   rename_i h1
   rw [runOpsT_le (cIT_mono E.fns ih) (cHT_mono E.fns ih) ops h1];exact h
  | draw ops=>
   rw [execT] at h ⊢
   split at h
   case h_2=>simp at h
   rename_i h1
   rw [runOpsT_le (d:=fun _ _ _=>none) (cIT_mono E.fns ih) (fun _ _ _ _ h=>h) ops h1];exact h
  | drawX ops bf=>
   rw [execT] at h ⊢
   split at h
   case h_2=>simp at h
   rename_i h1
   rw [runXT_le (cIT_mono E.fns ih) (cHT_mono E.fns ih) bf ops h1];exact h
  | drawW ops k ps=>
   rw [execT] at h ⊢
   split at h
   case h_2=>simp at h
   rename_i h1
   rw [runDT_le (cIT_mono E.fns ih) ops h1];exact h
  | gh pre r0 post=>
   rw [execT] at h ⊢
   split at h
   case h_2=>simp at h
   rename_i s0 h0
   split at h
   ·rename_i s1 h1;rw [ih _ _ _ _ h1];exact h
   ·rename_i hne
    cases r with
    | mk e s1=>
     rw [ih _ _ _ _ h]
     cases e with
     | normal=>exact (hne _ h).elim
     | _=>rfl
  | rfn g ps asg body=>
   rw [execT] at h ⊢
   split at h
   case h_2=>simp at h
   rename_i f cap hx
   (try simp only [hx])
   split at h
   case h_2=>simp at h
   rename_i u H' h1
   rw [cHT_mono E.fns ih _ _ _ _ h1];exact h
theorem execT_mono {E:Env} {hp:Nat→Bool} {n m:Nat} (h:n≤m):EXT.le (execT E hp n) (execT E hp m):=by
 induction h with
 | refl=>intro c k s r h;exact h
 | step _ ih=>intro c k s r h;exact execT_succ E hp _ c k s r (ih c k s r h)
def WP (E:Env) (hp:Nat→Bool) (c:RC) (b:Nat) (Q:Ex→ST→Prop) (s:ST):Prop:=∃ n e s',execT E hp n c b s=some (e,s')∧Q e s'
def WO (E:Env) (hp:Nat→Bool) (dr:Bool) (os:List ROp) (t:T) (H:List Obj) (K:T→List Obj→Prop):Prop:=
 ∃ n t' H',runOpsT E.glob (bif dr then fun _=>false else hp) (cIT E.fns (execT E hp n)) (bif dr then fun _ _ _=>none else cHT E.fns (execT E hp n)) os t H=some (t',H')∧K t' H'
def WC (E:Env) (hp:Nat→Bool) (dr:Bool) (f:Nat) (xs:List AV) (H:List Obj) (K:AV→List Obj→Prop):Prop:=
 ∃ n v H',doCall (bif dr then fun _=>false else hp) (cIT E.fns (execT E hp n)) (bif dr then fun _ _ _=>none else cHT E.fns (execT E hp n)) f xs H=some (v,H')∧K v H'
def Pt (E:Env) (hp:Nat→Bool) (f:Nat) (xs:List AV) (r:AV):Prop:=∃ n,cIT E.fns (execT E hp n) f xs=some r
theorem Pt.pu {E:Env} {hp:Nat→Bool} {f:Nat} {xs:List AV} {r:AV} (h:Pt E hp f xs r):Pu E hp f xs r:=by
 obtain ⟨n,h⟩:=h
 exact ⟨n,cIT_le E.fns (execT_sound E hp n) _ _ _ h⟩
section
variable {E:Env} {hp:Nat→Bool} {b:Nat} {Q:Ex→ST→Prop} {s:ST}
theorem WP.mono {c:RC} {Q':Ex→ST→Prop} (h:WP E hp c b Q s) (hq:∀ e s',Q e s'→Q' e s'):WP E hp c b Q' s:=by
 obtain ⟨n,e,s',h1,h2⟩:=h;exact ⟨n,e,s',h1,hq _ _ h2⟩
theorem WP_skip:WP E hp .skip b Q s↔Q .normal s:=
 ⟨fun ⟨n,e,s',h,hq⟩=>by cases n<;>simp [execT] at h;obtain ⟨rfl,rfl⟩:=h;exact hq,fun h=>⟨1,_,_,rfl,h⟩⟩
theorem WP_ret:WP E hp .ret b Q s↔Q .ret s:=
 ⟨fun ⟨n,e,s',h,hq⟩=>by cases n<;>simp [execT] at h;obtain ⟨rfl,rfl⟩:=h;exact hq,fun h=>⟨1,_,_,rfl,h⟩⟩
theorem WP_exit {i:Nat}:WP E hp (.exit i) b Q s↔Q (.exit i) s:=
 ⟨fun ⟨n,e,s',h,hq⟩=>by cases n<;>simp [execT] at h;obtain ⟨rfl,rfl⟩:=h;exact hq,fun h=>⟨1,_,_,rfl,h⟩⟩
theorem WP_seq {x y:RC}:WP E hp (.seq x y) b Q s↔WP E hp x b (fun e s'=>match e with | .normal=>WP E hp y b Q s' | .exit i=>Q (.exit i) s' | .ret=>Q .ret s') s:=by
 constructor
 ·rintro ⟨n,e,s',h,hq⟩
  cases n with
  | zero=>simp [execT] at h
  | succ n=>
   rw [execT] at h
   split at h
   ·rename_i s1 h1;exact ⟨n,_,_,h1,n,e,s',h,hq⟩
   ·rename_i hne
    refine ⟨n,e,s',h,?_⟩
    cases e with
    | normal=>exact (hne _ h).elim
    | _=>exact hq
 ·rintro ⟨n,e,s1,h,hq⟩
  cases e with
  | normal=>
   obtain ⟨m,e,s',h',hq⟩:=hq
   refine ⟨max n m+1,e,s',?_,hq⟩
   rw [execT,execT_mono (Nat.le_max_left n m) _ _ _ _ h]
   exact execT_mono (Nat.le_max_right n m) _ _ _ _ h'
  | exit i=>exact ⟨n+1,_,_,by rw [execT,h],hq⟩
  | ret=>exact ⟨n+1,_,_,by rw [execT,h],hq⟩
theorem WP_cond {x:RX} {p q:RC}:WP E hp (.cond x p q) b Q s↔(match evT E.glob s.tmps x with | .bool true=>WP E hp p b Q s | .bool false=>WP E hp q b Q s | _=>False):=by
 constructor
 ·rintro ⟨n,e,s',h,hq⟩
  cases n with
  | zero=>simp [execT] at h
  | succ n=>
   rw [execT] at h
   split at h
   ·rename_i hx;(try rw [hx]);exact ⟨n,e,s',h,hq⟩
   ·rename_i hx;(try rw [hx]);exact ⟨n,e,s',h,hq⟩
   ·simp at h
 ·intro h
  split at h
  ·rename_i hx;obtain ⟨n,e,s',h,hq⟩:=h;exact ⟨n+1,e,s',by rw [execT,hx];exact h,hq⟩
  ·rename_i hx;obtain ⟨n,e,s',h,hq⟩:=h;exact ⟨n+1,e,s',by rw [execT,hx];exact h,hq⟩
  ·exact h.elim
theorem WP_block {i:Nat} {p:RC}:WP E hp (.block i p) b Q s↔WP E hp p b (fun e s'=>match e with | .normal=>Q .normal s' | .exit j=>if j=i then Q .normal s' else Q (.exit j) s' | .ret=>Q .ret s') s:=by
 constructor
 ·rintro ⟨n,e,s',h,hq⟩
  cases n with
  | zero=>simp [execT] at h
  | succ n=>
   rw [execT] at h
   split at h
   ·rename_i j s1 h1
    refine ⟨n,_,_,h1,?_⟩
    dsimp only
    split at h<;>simp only [Option.some.injEq,Prod.mk.injEq] at h<;>obtain ⟨rfl,rfl⟩:=h
    ·rename_i hj;rw [if_pos hj];exact hq
    ·rename_i hj;rw [if_neg hj];exact hq
   ·rename_i hne
    refine ⟨n,e,s',h,?_⟩
    cases e with
    | exit j=>exact (hne _ _ h).elim
    | _=>exact hq
 ·rintro ⟨n,e,s1,h,hq⟩
  cases e with
  | normal=>exact ⟨n+1,_,_,by rw [execT,h],hq⟩
  | ret=>exact ⟨n+1,_,_,by rw [execT,h],hq⟩
  | exit j=>
   dsimp only at hq
   split at hq
   ·rename_i hj;exact ⟨n+1,_,_,by rw [execT,h];dsimp only;rw [if_pos hj],hq⟩
   ·rename_i hj;exact ⟨n+1,_,_,by rw [execT,h];dsimp only;rw [if_neg hj],hq⟩
theorem WP_gh {pre post:List GA} {p:RC}:WP E hp (.gh pre p post) b Q s↔(match ghostsT b pre s with
 | some s0=>WP E hp p b (fun e s'=>match e with | .normal=>(match ghostsT b post s' with | some s''=>Q .normal s'' | none=>False) | .exit j=>Q (.exit j) s' | .ret=>Q .ret s') s0
 | none=>False):=by
 constructor
 ·rintro ⟨n,e,s',h,hq⟩
  cases n with
  | zero=>simp [execT] at h
  | succ n=>
   rw [execT] at h
   split at h
   case h_2=>simp at h
   rename_i s0 h0
   simp only [h0]
   split at h
   ·rename_i s1 h1
    split at h
    case h_2=>simp at h
    rename_i s2 h2
    simp only [Option.some.injEq,Prod.mk.injEq] at h
    obtain ⟨rfl,rfl⟩:=h
    exact ⟨n,_,_,h1,by simp only [h2];exact hq⟩
   ·rename_i hne
    refine ⟨n,e,s',h,?_⟩
    cases e with
    | normal=>exact (hne _ h).elim
    | _=>exact hq
 ·intro h
  split at h
  case h_2=>exact h.elim
  rename_i s0 h0
  obtain ⟨n,e,s1,h,hq⟩:=h
  cases e with
  | normal=>
   dsimp only at hq
   split at hq
   case h_2=>exact hq.elim
   rename_i s2 h2
   exact ⟨n+1,_,_,by rw [execT,h0];dsimp only;rw [h];dsimp only;rw [h2],hq⟩
  | exit j=>exact ⟨n+1,_,_,by rw [execT,h0];dsimp only;rw [h],hq⟩
  | ret=>exact ⟨n+1,_,_,by rw [execT,h0];dsimp only;rw [h],hq⟩
theorem WP_reg {os:List ROp}:WP E hp (.reg os) b Q s↔WO E hp false os s.tmps s.H (fun t H=>Q .normal ⟨t,H⟩):=by
 constructor
 ·rintro ⟨n,e,s',h,hq⟩
  cases n with
  | zero=>simp [execT] at h
  | succ n=>
   rw [execT] at h
   split at h
   case h_2=>simp at h
   rename_i t H h1
   simp only [Option.some.injEq,Prod.mk.injEq] at h
   obtain ⟨rfl,rfl⟩:=h
   exact ⟨n,t,H,h1,hq⟩
 ·rintro ⟨n,t,H,h,hq⟩
  simp only [cond_false] at h
  exact ⟨n+1,_,_,by rw [execT,h],hq⟩
theorem WP_draw {os:List ROp}:WP E hp (.draw os) b Q s↔WO E hp true os s.tmps s.H (fun t H=>Q .normal ⟨t,H⟩):=by
 constructor
 ·rintro ⟨n,e,s',h,hq⟩
  cases n with
  | zero=>simp [execT] at h
  | succ n=>
   rw [execT] at h
   split at h
   case h_2=>simp at h
   rename_i t H h1
   simp only [Option.some.injEq,Prod.mk.injEq] at h
   obtain ⟨rfl,rfl⟩:=h
   exact ⟨n,t,H,h1,hq⟩
 ·rintro ⟨n,t,H,h,hq⟩
  simp only [cond_true] at h
  exact ⟨n+1,_,_,by rw [execT,h],hq⟩
variable {dr:Bool} {t:T} {H:List Obj} {K:T→List Obj→Prop}
theorem WO_nil:WO E hp dr [] t H K↔K t H:=
 ⟨fun ⟨n,t',H',h,hq⟩=>by simp only [runOpsT,Option.some.injEq,Prod.mk.injEq] at h;obtain ⟨rfl,rfl⟩:=h;exact hq,fun h=>⟨0,_,_,rfl,h⟩⟩
def ev1 (ev:RX→AV) (pl:Nat) (x:RO) (H:List Obj):Option (AV×List Obj):=evalOpe ev (fun _=>false) (fun _ _=>none) (fun _ _ _=>none) pl x H
theorem ev1_eq {ev:RX→AV} {hp:Nat→Bool} {cI:CI} {cH:CH} {pl:Nat} {x:RO} {H:List Obj} (hk:x.kind≠ .call):evalOpe ev hp cI cH pl x H=ev1 ev pl x H:=by
 unfold ev1 evalOpe
 cases h:x.kind with
 | call=>exact (hk h).elim
 | _=>rfl
theorem WO_op {o:ROp} {os:List ROp} (hk:o.op.kind≠ .call):WO E hp dr (o::os) t H K↔(match wantT t o.guard with
 | some true=>(match ev1 (evT E.glob t) H.length o.op H with | some (v,H')=>WO E hp dr os (putD t o.dst v) H' K | none=>False)
 | some false=>WO E hp dr os (putD t o.dst (.tup [])) H K
 | none=>False):=by
 unfold WO
 constructor
 ·rintro ⟨n,t',H',h,hq⟩
  rw [runOpsT] at h
  split at h
  ·rename_i hw
   try simp only [hw]
   rw [ev1_eq hk] at h
   split at h
   case h_2=>simp at h
   rename_i v H1 he
   rw [frc_eq] at h
   simp only [he]
   exact ⟨n,t',H',h,hq⟩
  ·rename_i hw
   try simp only [hw]
   exact ⟨n,t',H',h,hq⟩
  ·simp at h
 ·intro h
  split at h
  ·rename_i hw
   split at h
   case h_2=>exact h.elim
   rename_i v H1 he
   obtain ⟨n,t',H',h,hq⟩:=h
   refine ⟨n,t',H',?_,hq⟩
   rw [runOpsT,hw];dsimp only
   rw [ev1_eq hk,he];dsimp only
   rw [frc_eq];exact h
  ·rename_i hw
   obtain ⟨n,t',H',h,hq⟩:=h
   exact ⟨n,t',H',by rw [runOpsT,hw];exact h,hq⟩
  ·exact h.elim
theorem doCall_mono {n m:Nat} (h:n≤m) {f:Nat} {xs:List AV} {r}
 (hd:doCall (bif dr then fun _=>false else hp) (cIT E.fns (execT E hp n)) (bif dr then fun _ _ _=>none else cHT E.fns (execT E hp n)) f xs H=some r):
 doCall (bif dr then fun _=>false else hp) (cIT E.fns (execT E hp m)) (bif dr then fun _ _ _=>none else cHT E.fns (execT E hp m)) f xs H=some r:=by
 refine doCall_le (cIT_mono E.fns (execT_mono h)) ?_ hd
 cases dr with
 | true=>exact fun _ _ _ _ h=>h
 | false=>exact cHT_mono E.fns (execT_mono h)
theorem runOps_mono {n m:Nat} (h:n≤m) {os:List ROp} {r}
 (hd:runOpsT E.glob (bif dr then fun _=>false else hp) (cIT E.fns (execT E hp n)) (bif dr then fun _ _ _=>none else cHT E.fns (execT E hp n)) os t H=some r):
 runOpsT E.glob (bif dr then fun _=>false else hp) (cIT E.fns (execT E hp m)) (bif dr then fun _ _ _=>none else cHT E.fns (execT E hp m)) os t H=some r:=by
 refine runOpsT_le (cIT_mono E.fns (execT_mono h)) ?_ os hd
 cases dr with
 | true=>exact fun _ _ _ _ h=>h
 | false=>exact cHT_mono E.fns (execT_mono h)
theorem WO_call {d:Option Nat} {f:Nat} {args:List RX} {os:List ROp}:
 WO E hp dr (⟨d,none,.call f args⟩::os) t H K↔WC E hp dr f (args.map (evT E.glob t)) H (fun v H'=>WO E hp dr os (putD t d v) H' K):=by
 unfold WO WC
 constructor
 ·rintro ⟨n,t',H',h,hq⟩
  rw [runOpsT] at h
  simp only [wantT,evalOpe,RO.kind] at h
  split at h
  case h_2=>simp at h
  rename_i v H1 he
  rw [frc_eq] at h
  exact ⟨n,v,H1,he,n,t',H',h,hq⟩
 ·rintro ⟨n,v,H1,he,m,t',H',h,hq⟩
  refine ⟨max n m,t',H',?_,hq⟩
  rw [runOpsT]
  simp only [wantT,evalOpe,RO.kind]
  rw [doCall_mono (Nat.le_max_left n m) he]
  dsimp only
  rw [frc_eq]
  exact runOps_mono (Nat.le_max_right n m) h
theorem WO_callv {d:Option Nat} {x:RX} {args:List RX} {os:List ROp} {f:Nat} {cap:List AV} (hx:evT E.glob t x= .fn f cap):
 WO E hp dr (⟨d,none,.callv x args⟩::os) t H K↔WC E hp dr f (args.map (evT E.glob t)++cap) H (fun v H'=>WO E hp dr os (putD t d v) H' K):=by
 unfold WO WC
 constructor
 ·rintro ⟨n,t',H',h,hq⟩
  rw [runOpsT] at h
  simp only [wantT,evalOpe,RO.kind,hx] at h
  split at h
  case h_2=>simp at h
  rename_i v H1 he
  rw [frc_eq] at h
  exact ⟨n,v,H1,he,n,t',H',h,hq⟩
 ·rintro ⟨n,v,H1,he,m,t',H',h,hq⟩
  refine ⟨max n m,t',H',?_,hq⟩
  rw [runOpsT]
  simp only [wantT,evalOpe,RO.kind,hx]
  rw [doCall_mono (Nat.le_max_left n m) he]
  dsimp only
  rw [frc_eq]
  exact runOps_mono (Nat.le_max_right n m) h
theorem WO_callb {d:Option Nat} {x:RX} {args:List RX} {os:List ROp} {f:Nat} {l:List AV} (hx:evT E.glob t x= .bnd f l)
 (h:WC E hp dr f (l++args.map (evT E.glob t)) H (fun v H'=>WO E hp dr os (putD t d v) H' K)):WO E hp dr (⟨d,none,.callv x args⟩::os) t H K:=by
 obtain ⟨n,v,H1,he,m,t',H',h,hq⟩:=h
 refine ⟨max n m,t',H',?_,hq⟩
 rw [runOpsT]
 simp only [wantT,evalOpe,RO.kind,hx]
 rw [doCall_mono (Nat.le_max_left n m) he]
 dsimp only
 rw [frc_eq]
 exact runOps_mono (Nat.le_max_right n m) h
theorem WC_free {f:Nat} {xs:List AV} {r:AV} {K:AV→List Obj→Prop} (hf:dr=true∨hp f=false) (hx:AV.bels 0 xs=true) (h:Pt E hp f xs r) (hk:K r H):WC E hp dr f xs H K:=by
 obtain ⟨n,h⟩:=h
 refine ⟨n,r,H,?_,hk⟩
 have hf':¬ (bif dr then fun _=>false else hp) f=true:=by
  rcases hf with rfl | hf
  ·simp
  ·cases dr<;>simp [hf]
 unfold doCall
 rw [if_neg hf']
 simp only [snaps,mapO_free _ _ _ hx,h,hx,Bool.true_or,if_true]
theorem WC_lent {f:Nat} {xs ys:List AV} {r:AV} {K:AV→List Obj→Prop} (hf:dr=true∨hp f=false) (hx:snaps H xs=some ys) (h:Pt E hp f ys r) (hr:r.flat=true) (hk:K r H):WC E hp dr f xs H K:=by
 obtain ⟨n,h⟩:=h
 refine ⟨n,r,H,?_,hk⟩
 have hf':¬ (bif dr then fun _=>false else hp) f=true:=by
  rcases hf with rfl | hf
  ·simp
  ·cases dr<;>simp [hf]
 unfold doCall
 rw [if_neg hf']
 simp only [hx,h,hr,Bool.or_true,if_true]
theorem Pt_of {f:Nat} {xs:List AV} {r:AV} {rf:RF} (hfn:E.fns f=some rf) (hn:xs.length=rf.nargs) (hm:rf.nargs≤rf.ntmps)
 (h:WP E hp rf.body 0 (fun e s'=>match e with | .exit _=>False | _=>∃ l,resultsT rf.results s'=some l∧pack s'.H (oneOf l)=some r) ⟨startT rf xs,[]⟩):Pt E hp f xs r:=by
 obtain ⟨n,e,s',h,hq⟩:=h
 cases e with
 | exit i=>exact hq.elim
 | normal=>
  obtain ⟨l,h1,h2⟩:=hq
  exact ⟨n,by simp only [cIT,hfn,hn,hm,and_self,if_true,h,h1,h2]⟩
 | ret=>
  obtain ⟨l,h1,h2⟩:=hq
  exact ⟨n,by simp only [cIT,hfn,hn,hm,and_self,if_true,h,h1,h2]⟩
theorem WO_skip {o:ROp} {os:List ROp} (hw:wantT t o.guard=some false):WO E hp dr (o::os) t H K↔WO E hp dr os (putD t o.dst (.tup [])) H K:=by
 unfold WO
 constructor
 ·rintro ⟨n,t',H',h,hq⟩
  rw [runOpsT,hw] at h
  exact ⟨n,t',H',h,hq⟩
 ·rintro ⟨n,t',H',h,hq⟩
  exact ⟨n,t',H',by rw [runOpsT,hw];exact h,hq⟩
theorem WO_do {d:Option Nat} {g:Option (Nat×Bool)} {x:RO} {os:List ROp} (hw:wantT t g=some true):WO E hp dr (⟨d,g,x⟩::os) t H K↔WO E hp dr (⟨d,none,x⟩::os) t H K:=by
 unfold WO
 have e:∀ n,runOpsT E.glob (bif dr then fun _=>false else hp) (cIT E.fns (execT E hp n)) (bif dr then fun _ _ _=>none else cHT E.fns (execT E hp n)) (⟨d,g,x⟩::os) t H=
  runOpsT E.glob (bif dr then fun _=>false else hp) (cIT E.fns (execT E hp n)) (bif dr then fun _ _ _=>none else cHT E.fns (execT E hp n)) (⟨d,none,x⟩::os) t H:=by
  intro n
  rw [runOpsT,runOpsT]
  have e1:wantT t (none:Option (Nat×Bool))=some true:=rfl
  dsimp only
  rw [hw,e1]
 simp only [e]
theorem WO_step {o:ROp} {os:List ROp} {v:AV} {H1:List Obj} (hk:o.op.kind≠ .call) (hw:wantT t o.guard=some true) (he:ev1 (evT E.glob t) H.length o.op H=some (v,H1))
 (h:WO E hp dr os (putD t o.dst v) H1 K):WO E hp dr (o::os) t H K:=by
 refine (WO_op hk).2 ?_
 rw [hw];dsimp only
 rw [he];exact h
theorem WO_pass {o:ROp} {os:List ROp} (hw:wantT t o.guard=some false) (h:WO E hp dr os (putD t o.dst (.tup [])) H K):WO E hp dr (o::os) t H K:=(WO_skip hw).2 h
end
end Go.Am.As
