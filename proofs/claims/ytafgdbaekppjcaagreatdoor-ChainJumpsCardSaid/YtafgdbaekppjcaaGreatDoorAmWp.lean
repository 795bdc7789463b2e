/- Proofs about what the machine computes: weakest preconditions over code, by rules. No condition. -/
import Derived.Test.YtafgdbaekppjcaaGreatDoorAmZ1
set_option linter.unusedSectionVars false
set_option linter.unusedVariables false
set_option linter.unusedSimpArgs false
namespace Go.Am.As
section
variable {G:Nat->List AV} {hp:Nat->Bool}
theorem fX {a b:CI} {c d:CH} (h1:a.le b) (h2:c.le d):∀ (os:List bH) {t:T} {H:List Obj} {r},aZ G hp a c os t H=some r->aZ G hp b d os t H=some r
 | [],_,_,_,h=>h
 | o::os,t,H,r,h=>by
  rw [aZ] at h ⊢;split at h
  ·rename_i hw;try simp only [hw]
   split at h
   case h_2=>simp at h
   rename_i v H1 he;rw [fU h1 h2 he];simp only [dU] at h ⊢;exact fX h1 h2 os h
  ·rename_i hw;try simp only [hw]
   exact fX h1 h2 os h
  ·simp at h
theorem nV {a b:CI} {c d:CH} (h1:a.le b) (h2:c.le d) (bf:List Nat):∀ (os:List bH) {i:Nat} {rs:List (Nat×(List Obj->Option AV)×AV)} {hs:List (Nat×List Obj×List Obj)} {t:T} {H:List Obj} {r},g9 G hp a c bf os i rs hs t H=some r->g9 G hp b d bf os i rs hs t H=some r
 | [],_,_,_,_,_,_,h=>h
 | o::os,i,rs,hs,t,H,r,h=>by
  rw [g9] at h ⊢;split at h
  ·simp at h
  rename_i v H1 ha;have Uy:lB G hp b d o t H=some (v,H1):=by
   unfold lB at ha ⊢;split at ha
   ·rename_i hw;try rw [hw]
    exact fU h1 h2 ha
   ·exact ha
   ·simp at ha
  rw [Uy];simp only [dU] at h ⊢
  cases hk:o.op.kind<;>rw [hk] at h<;>dsimp only at h ⊢
  ·exact nV h1 h2 bf os h
  all_goals
   split at h
   case isFalse=>simp at h
   rename_i hc;rw [if_pos hc];exact nV h1 h2 bf os h
theorem D4 {a b:CI} (h1:a.le b) {pl:Nat} {o:bH} {t:T} {H:List Obj} {r} (h:nE G a pl o t H=some r):nE G b pl o t H=some r:=by
 unfold nE at h ⊢;split at h
 ·rename_i hw;try simp only [hw]
  split at h
  case isFalse=>simp at h
  rename_i hp';rw [if_pos hp'];split at h
  case h_2=>simp at h
  rename_i he;rw [zN h1 he];exact h
 ·rename_i hw;(try simp only [hw]);exact h
 ·simp at h
theorem si {a b:CI} (h1:a.le b) {k:Nat}:∀ (os:List (Nat×bH)) {t:T} {H:List Obj} {r},gD G a k os t H=some r->gD G b k os t H=some r
 | [],_,_,_,h=>h
 | (p,o)::os,t,H,r,h=>by
  rw [gD] at h ⊢;split at h
  case h_2=>simp at h
  rename_i v H1 f ha;rw [D4 h1 ha];simp only [dU] at h ⊢;split at h
  case h_2=>simp at h
  rename_i hr;rw [si h1 os hr];exact h
end
def qF.le (a b:qF):Prop:=∀ c k s r,a c k s=some r->b c k s=some r
theorem Kc {a b:qF} (h:a.le b) {rf:RF} {xs:List AV} {r:AV} (hr:FM a rf xs=some r):FM b rf xs=some r:=by
 unfold FM at hr ⊢;split at hr
 case h_2=>simp at hr
 rename_i as;split at hr
 case isFalse=>simp at hr
 rename_i hc;change (if as.length=rf.nargs/\rf.nargs<=rf.ntmps then _ else none)=some r;rw [if_pos hc]
 cases he:a rf.body 0 ⟨eZ rf as,[]⟩ with
 | none=>rw [he] at hr;simp at hr
 | some q=>rw [he] at hr;rw [h _ _ _ _ he];exact hr
theorem dW (fns:Nat->Option RF) {a b:qF} (h:a.le b):(kh fns a).le (kh fns b):=by
 intro f xs r hr;unfold kh at hr ⊢;split at hr
 case h_2=>simp at hr
 rename_i rf qA;try simp only [qA]
 split at hr
 case isFalse=>rename_i hc;rw [if_neg hc];exact Kc h hr
 rename_i hc;rw [if_pos hc]
 cases he:a rf.body 0 ⟨eZ rf xs,[]⟩ with
 | none=>rw [he] at hr;simp at hr
 | some q=>rw [he] at hr;rw [h _ _ _ _ he];exact hr
theorem Ao {a b:qF} (h:a.le b) {xs:List AV} {H:List Obj} {r:AV×List Obj} (e:vT a xs H=some r):vT b xs H=some r:=by
 unfold vT at e ⊢;split at e
 case h_2=>simp at e
 rename_i l xs;split at e
 case h_2=>simp at e
 rename_i t ps b6 body hl;try simp only [hl]
 split at e
 case isFalse=>simp at e
 rename_i hlen;rw [if_pos hlen];split at e
 case h_2=>simp at e
 rename_i s1 h1;rw [h _ _ _ _ h1];(try dsimp only);split at e
 case h_2=>simp at e
 rename_i H1 Hj;try simp only [Hj]
 split at e
 ·rename_i s2 h2;rw [h _ _ _ _ h2];exact e
 ·rename_i e' s2 hne h2;rw [h _ _ _ _ h2]
  cases e' with
  | normal=>exact (hne rfl).elim
  | exit i=>exact e
  | ret=>exact e
 ·simp at e
theorem fL (fns:Nat->Option RF) {a b:qF} (h:a.le b):(kg fns a).le (kg fns b):=by
 intro f xs H r hr;unfold kg at hr ⊢
 cases f with
 | none=>exact Ao h hr
 | some f=>
 dsimp only at hr ⊢;split at hr
 case h_2=>simp at hr
 rename_i rf qA;try simp only [qA]
 split at hr
 case isFalse=>
  rename_i hn;rw [if_neg hn];exact hr
 rename_i hc;rw [if_pos hc]
 cases he:a rf.body H.length ⟨eZ rf xs,H⟩ with
 | none=>rw [he] at hr;simp at hr
 | some q=>rw [he] at hr;rw [h _ _ _ _ he];exact hr
theorem yj (E:Env) (hp:Nat->Bool):∀ n,qF.le (ak E hp n) (ak E hp (n+1))
 | 0=>by intro c k s r h;simp [ak] at h
 | n+1=>by
  have ih:=yj E hp n;intro c k s r h
  cases c with
  | bad=>simp [ak] at h
  | skip=>exact h
  | ret=>exact h
  | exit i=>exact h
  | seq a b=>
   rw [ak] at h ⊢;split at h
   ·rename_i s1 h1;rw [ih _ _ _ _ h1];exact ih _ _ _ _ h
   ·rename_i hne
    cases r with
    | mk e s1=>
     rw [ih _ _ _ _ h]
     cases e with
     | normal=>exact (hne _ h).elim
     | _=>rfl
  | cond x a b=>
   rw [ak] at h ⊢;split at h
   ·rename_i hx;(try simp only [hx]);exact ih _ _ _ _ h
   ·rename_i hx;(try simp only [hx]);exact ih _ _ _ _ h
   ·simp at h
  | block i b=>
   rw [ak] at h ⊢;split at h
   ·rename_i j s1 h1;rw [ih _ _ _ _ h1];exact h
   ·rename_i hne
    cases r with
    | mk e s1=>
     rw [ih _ _ _ _ h]
     cases e with
     | exit j=>exact (hne _ _ h).elim
     | _=>rfl
  | loop b=>
   rw [ak] at h ⊢;split at h
   ·rename_i s1 h1;rw [ih _ _ _ _ h1];exact ih _ _ _ _ h
   ·rename_i hne
    cases r with
    | mk e s1=>
     rw [ih _ _ _ _ h]
     cases e with
     | normal=>exact (hne _ h).elim
     | _=>rfl
  | u5 ops=>
   rw [ak] at h ⊢;split at h
   case h_2=>simp at h
   rename_i h1;rw [fX (dW E.fns ih) (fL E.fns ih) ops h1];exact h
  | draw ops=>
   rw [ak] at h ⊢;split at h
   case h_2=>simp at h
   rename_i h1;rw [fX (d:=fun _ _ _=>none) (dW E.fns ih) (fun _ _ _ _ h=>h) ops h1];exact h
  | jG ops bf=>
   rw [ak] at h ⊢;split at h
   case h_2=>simp at h
   rename_i h1;rw [nV (dW E.fns ih) (fL E.fns ih) bf ops h1];exact h
  | kB ops k ps=>
   rw [ak] at h ⊢;split at h
   case h_2=>simp at h
   rename_i h1;rw [si (dW E.fns ih) ops h1];exact h
  | gh pre r0 post=>
   rw [ak] at h ⊢;split at h
   case h_2=>simp at h
   rename_i s0 h0;split at h
   ·rename_i s1 h1;rw [ih _ _ _ _ h1];exact h
   ·rename_i hne
    cases r with
    | mk e s1=>
     rw [ih _ _ _ _ h]
     cases e with
     | normal=>exact (hne _ h).elim
     | _=>rfl
  | AT g ps b6 body=>
   rw [ak] at h ⊢;split at h
   case h_2=>simp at h
   rename_i f cap hx
   (try simp only [hx])
   split at h
   case h_2=>simp at h
   rename_i u H' h1;rw [fL E.fns ih _ _ _ _ h1];exact h
theorem bN {E:Env} {hp:Nat->Bool} {n m:Nat} (h:n<=m):qF.le (ak E hp n) (ak E hp m):=by
 induction h with
 | refl=>intro c k s r h;exact h
 | step _ ih=>intro c k s r h;exact yj E hp _ c k s r (ih c k s r h)
def WP (E:Env) (hp:Nat->Bool) (c:RC) (b:Nat) (Q:Ex->ST->Prop) (s:ST):Prop:=∃ n e s',ak E hp n c b s=some (e,s')/\Q e s'
def WO (E:Env) (hp:Nat->Bool) (dr:Bool) (os:List bH) (t:T) (H:List Obj) (K:T->List Obj->Prop):Prop:=
 ∃ n t' H',aZ E.aF (bif dr then fun _=>false else hp) (kh E.fns (ak E hp n)) (bif dr then fun _ _ _=>none else kg E.fns (ak E hp n)) os t H=some (t',H')/\K t' H'
def WC (E:Env) (hp:Nat->Bool) (dr:Bool) (f:Nat) (xs:List AV) (H:List Obj) (K:AV->List Obj->Prop):Prop:=
 ∃ n v H',bJ (bif dr then fun _=>false else hp) (kh E.fns (ak E hp n)) (bif dr then fun _ _ _=>none else kg E.fns (ak E hp n)) f xs H=some (v,H')/\K v H'
def Pt (E:Env) (hp:Nat->Bool) (f:Nat) (xs:List AV) (r:AV):Prop:=∃ n,kh E.fns (ak E hp n) f xs=some r
theorem Pt.pu {E:Env} {hp:Nat->Bool} {f:Nat} {xs:List AV} {r:AV} (h:Pt E hp f xs r):Pu E hp f xs r:=by
 obtain ⟨n,h⟩:=h;exact ⟨n,wJ E.fns (ux E hp n) _ _ _ h⟩
section
variable {E:Env} {hp:Nat->Bool} {b:Nat} {Q:Ex->ST->Prop} {s:ST}
theorem WP.mono {c:RC} {Q':Ex->ST->Prop} (h:WP E hp c b Q s) (hq:∀ e s',Q e s'->Q' e s'):WP E hp c b Q' s:=by
 obtain ⟨n,e,s',h1,h2⟩:=h;exact ⟨n,e,s',h1,hq _ _ h2⟩
theorem RV:WP E hp .skip b Q s↔Q .normal s:=
 ⟨fun ⟨n,e,s',h,hq⟩=>by cases n<;>simp [ak] at h;obtain ⟨rfl,rfl⟩:=h;exact hq,fun h=>⟨1,_,_,rfl,h⟩⟩
theorem Wz:WP E hp .ret b Q s↔Q .ret s:=
 ⟨fun ⟨n,e,s',h,hq⟩=>by cases n<;>simp [ak] at h;obtain ⟨rfl,rfl⟩:=h;exact hq,fun h=>⟨1,_,_,rfl,h⟩⟩
theorem RW {i:Nat}:WP E hp (.exit i) b Q s↔Q (.exit i) s:=
 ⟨fun ⟨n,e,s',h,hq⟩=>by cases n<;>simp [ak] at h;obtain ⟨rfl,rfl⟩:=h;exact hq,fun h=>⟨1,_,_,rfl,h⟩⟩
theorem WA {x y:RC}:WP E hp (.seq x y) b Q s↔WP E hp x b (fun e s'=>match e with | .normal=>WP E hp y b Q s' | .exit i=>Q (.exit i) s' | .ret=>Q .ret s') s:=by
 constructor
 ·rintro ⟨n,e,s',h,hq⟩
  cases n with
  | zero=>simp [ak] at h
  | succ n=>
   rw [ak] at h;split at h
   ·rename_i s1 h1;exact ⟨n,_,_,h1,n,e,s',h,hq⟩
   ·rename_i hne;refine ⟨n,e,s',h,?_⟩
    cases e with
    | normal=>exact (hne _ h).elim
    | _=>exact hq
 ·rintro ⟨n,e,s1,h,hq⟩
  cases e with
  | normal=>
   obtain ⟨m,e,s',h',hq⟩:=hq;refine ⟨max n m+1,e,s',?_,hq⟩;rw [ak,bN (zby n m) _ _ _ _ h];exact bN (zbs n m) _ _ _ _ h'
  | exit i=>exact ⟨n+1,_,_,by rw [ak,h],hq⟩
  | ret=>exact ⟨n+1,_,_,by rw [ak,h],hq⟩
theorem RY {x:RX} {p q:RC}:WP E hp (.cond x p q) b Q s↔(match ga E.aF s.tmps x with | .bool true=>WP E hp p b Q s | .bool false=>WP E hp q b Q s | _=>False):=by
 constructor
 ·rintro ⟨n,e,s',h,hq⟩
  cases n with
  | zero=>simp [ak] at h
  | succ n=>
   rw [ak] at h;split at h
   ·rename_i hx;(try rw [hx]);exact ⟨n,e,s',h,hq⟩
   ·rename_i hx;(try rw [hx]);exact ⟨n,e,s',h,hq⟩
   ·simp at h
 ·intro h;split at h
  ·rename_i hx;obtain ⟨n,e,s',h,hq⟩:=h;exact ⟨n+1,e,s',by rw [ak,hx];exact h,hq⟩
  ·rename_i hx;obtain ⟨n,e,s',h,hq⟩:=h;exact ⟨n+1,e,s',by rw [ak,hx];exact h,hq⟩
  ·exact h.elim
theorem xq {i:Nat} {p:RC}:WP E hp (.block i p) b Q s↔WP E hp p b (fun e s'=>match e with | .normal=>Q .normal s' | .exit j=>if j=i then Q .normal s' else Q (.exit j) s' | .ret=>Q .ret s') s:=by
 constructor
 ·rintro ⟨n,e,s',h,hq⟩
  cases n with
  | zero=>simp [ak] at h
  | succ n=>
   rw [ak] at h;split at h
   ·rename_i j s1 h1;refine ⟨n,_,_,h1,?_⟩;dsimp only;split at h<;>simp only [za2,za4] at h<;>obtain ⟨rfl,rfl⟩:=h
    ·rename_i hj;rw [if_pos hj];exact hq
    ·rename_i hj;rw [if_neg hj];exact hq
   ·rename_i hne;refine ⟨n,e,s',h,?_⟩
    cases e with
    | exit j=>exact (hne _ _ h).elim
    | _=>exact hq
 ·rintro ⟨n,e,s1,h,hq⟩
  cases e with
  | normal=>exact ⟨n+1,_,_,by rw [ak,h],hq⟩
  | ret=>exact ⟨n+1,_,_,by rw [ak,h],hq⟩
  | exit j=>
   dsimp only at hq;split at hq
   ·rename_i hj;exact ⟨n+1,_,_,by rw [ak,h];dsimp only;rw [if_pos hj],hq⟩
   ·rename_i hj;exact ⟨n+1,_,_,by rw [ak,h];dsimp only;rw [if_neg hj],hq⟩
theorem LX {pre post:List GA} {p:RC}:WP E hp (.gh pre p post) b Q s↔(match cF b pre s with
 | some s0=>WP E hp p b (fun e s'=>match e with | .normal=>(match cF b post s' with | some s''=>Q .normal s'' | none=>False) | .exit j=>Q (.exit j) s' | .ret=>Q .ret s') s0
 | none=>False):=by
 constructor
 ·rintro ⟨n,e,s',h,hq⟩
  cases n with
  | zero=>simp [ak] at h
  | succ n=>
   rw [ak] at h;split at h
   case h_2=>simp at h
   rename_i s0 h0;simp only [h0];split at h
   ·rename_i s1 h1;split at h
    case h_2=>simp at h
    rename_i s2 h2;simp only [za2,za4] at h;obtain ⟨rfl,rfl⟩:=h;exact ⟨n,_,_,h1,by simp only [h2];exact hq⟩
   ·rename_i hne;refine ⟨n,e,s',h,?_⟩
    cases e with
    | normal=>exact (hne _ h).elim
    | _=>exact hq
 ·intro h;split at h
  case h_2=>exact h.elim
  rename_i s0 h0;obtain ⟨n,e,s1,h,hq⟩:=h
  cases e with
  | normal=>
   dsimp only at hq;split at hq
   case h_2=>exact hq.elim
   rename_i s2 h2;exact ⟨n+1,_,_,by rw [ak,h0];dsimp only;rw [h];dsimp only;rw [h2],hq⟩
  | exit j=>exact ⟨n+1,_,_,by rw [ak,h0];dsimp only;rw [h],hq⟩
  | ret=>exact ⟨n+1,_,_,by rw [ak,h0];dsimp only;rw [h],hq⟩
theorem WE {os:List bH}:WP E hp (.u5 os) b Q s↔WO E hp false os s.tmps s.H (fun t H=>Q .normal ⟨t,H⟩):=by
 constructor
 ·rintro ⟨n,e,s',h,hq⟩
  cases n with
  | zero=>simp [ak] at h
  | succ n=>
   rw [ak] at h;split at h
   case h_2=>simp at h
   rename_i t H h1;simp only [za2,za4] at h;obtain ⟨rfl,rfl⟩:=h;exact ⟨n,t,H,h1,hq⟩
 ·rintro ⟨n,t,H,h,hq⟩;simp only [cond_false] at h;exact ⟨n+1,_,_,by rw [ak,h],hq⟩
theorem RZ {os:List bH}:WP E hp (.draw os) b Q s↔WO E hp true os s.tmps s.H (fun t H=>Q .normal ⟨t,H⟩):=by
 constructor
 ·rintro ⟨n,e,s',h,hq⟩
  cases n with
  | zero=>simp [ak] at h
  | succ n=>
   rw [ak] at h;split at h
   case h_2=>simp at h
   rename_i t H h1;simp only [za2,za4] at h;obtain ⟨rfl,rfl⟩:=h;exact ⟨n,t,H,h1,hq⟩
 ·rintro ⟨n,t,H,h,hq⟩;simp only [cond_true] at h;exact ⟨n+1,_,_,by rw [ak,h],hq⟩
variable {dr:Bool} {t:T} {H:List Obj} {K:T->List Obj->Prop}
theorem MY:WO E hp dr [] t H K↔K t H:=
 ⟨fun ⟨n,t',H',h,hq⟩=>by simp only [aZ,za2,za4] at h;obtain ⟨rfl,rfl⟩:=h;exact hq,fun h=>⟨0,_,_,rfl,h⟩⟩
def KF (ev:RX->AV) (pl:Nat) (x:RO) (H:List Obj):Option (AV×List Obj):=bW ev (fun _=>false) (fun _ _=>none) (fun _ _ _=>none) pl x H
theorem Gq {ev:RX->AV} {hp:Nat->Bool} {cI:CI} {cH:CH} {pl:Nat} {x:RO} {H:List Obj} (hk:x.kind≠ .call):bW ev hp cI cH pl x H=KF ev pl x H:=by
 unfold KF bW
 cases h:x.kind with
 | call=>exact (hk h).elim
 | _=>rfl
theorem abn {o:bH} {os:List bH} (hk:o.op.kind≠ .call):WO E hp dr (o::os) t H K↔(match dh t o.guard with
 | some true=>(match KF (ga E.aF t) H.length o.op H with | some (v,H')=>WO E hp dr os (cS t o.dst v) H' K | none=>False)
 | some false=>WO E hp dr os (cS t o.dst (.aY [])) H K
 | none=>False):=by
 unfold WO;constructor
 ·rintro ⟨n,t',H',h,hq⟩;rw [aZ] at h;split at h
  ·rename_i hw;try simp only [hw]
   rw [Gq hk] at h;split at h
   case h_2=>simp at h
   rename_i v H1 he;rw [dU] at h;simp only [he];exact ⟨n,t',H',h,hq⟩
  ·rename_i hw;try simp only [hw]
   exact ⟨n,t',H',h,hq⟩
  ·simp at h
 ·intro h;split at h
  ·rename_i hw;split at h
   case h_2=>exact h.elim
   rename_i v H1 he;obtain ⟨n,t',H',h,hq⟩:=h;refine ⟨n,t',H',?_,hq⟩;rw [aZ,hw];dsimp only;rw [Gq hk,he];dsimp only;rw [dU];exact h
  ·rename_i hw;obtain ⟨n,t',H',h,hq⟩:=h;exact ⟨n,t',H',by rw [aZ,hw];exact h,hq⟩
  ·exact h.elim
theorem n6 {n m:Nat} (h:n<=m) {f:Nat} {xs:List AV} {r}
 (hd:bJ (bif dr then fun _=>false else hp) (kh E.fns (ak E hp n)) (bif dr then fun _ _ _=>none else kg E.fns (ak E hp n)) f xs H=some r):
 bJ (bif dr then fun _=>false else hp) (kh E.fns (ak E hp m)) (bif dr then fun _ _ _=>none else kg E.fns (ak E hp m)) f xs H=some r:=by
 refine oz (dW E.fns (bN h)) ?_ hd
 cases dr with
 | true=>exact fun _ _ _ _ h=>h
 | false=>exact fL E.fns (bN h)
theorem kP {n m:Nat} (h:n<=m) {os:List bH} {r}
 (hd:aZ E.aF (bif dr then fun _=>false else hp) (kh E.fns (ak E hp n)) (bif dr then fun _ _ _=>none else kg E.fns (ak E hp n)) os t H=some r):
 aZ E.aF (bif dr then fun _=>false else hp) (kh E.fns (ak E hp m)) (bif dr then fun _ _ _=>none else kg E.fns (ak E hp m)) os t H=some r:=by
 refine fX (dW E.fns (bN h)) ?_ os hd
 cases dr with
 | true=>exact fun _ _ _ _ h=>h
 | false=>exact fL E.fns (bN h)
theorem Sv {d:Option Nat} {f:Nat} {args:List RX} {os:List bH}:
 WO E hp dr (⟨d,none,.call f args⟩::os) t H K↔WC E hp dr f (args.map (ga E.aF t)) H (fun v H'=>WO E hp dr os (cS t d v) H' K):=by
 unfold WO WC;constructor
 ·rintro ⟨n,t',H',h,hq⟩;rw [aZ] at h;simp only [dh,bW,RO.kind] at h;split at h
  case h_2=>simp at h
  rename_i v H1 he;rw [dU] at h;exact ⟨n,v,H1,he,n,t',H',h,hq⟩
 ·rintro ⟨n,v,H1,he,m,t',H',h,hq⟩;refine ⟨max n m,t',H',?_,hq⟩;rw [aZ];simp only [dh,bW,RO.kind];rw [n6 (zby n m) he];dsimp only;rw [dU];exact kP (zbs n m) h
theorem Pe {d:Option Nat} {x:RX} {args:List RX} {os:List bH} {f:Nat} {cap:List AV} (hx:ga E.aF t x= .fn f cap):
 WO E hp dr (⟨d,none,.gf x args⟩::os) t H K↔WC E hp dr f (args.map (ga E.aF t)++cap) H (fun v H'=>WO E hp dr os (cS t d v) H' K):=by
 unfold WO WC;constructor
 ·rintro ⟨n,t',H',h,hq⟩;rw [aZ] at h;simp only [dh,bW,RO.kind,hx] at h;split at h
  case h_2=>simp at h
  rename_i v H1 he;rw [dU] at h;exact ⟨n,v,H1,he,n,t',H',h,hq⟩
 ·rintro ⟨n,v,H1,he,m,t',H',h,hq⟩;refine ⟨max n m,t',H',?_,hq⟩;rw [aZ];simp only [dh,bW,RO.kind,hx];rw [n6 (zby n m) he];dsimp only;rw [dU];exact kP (zbs n m) h
theorem Pf {d:Option Nat} {x:RX} {args:List RX} {os:List bH} {f:Nat} {l:List AV} (hx:ga E.aF t x= .eD f l)
 (h:WC E hp dr f (l++args.map (ga E.aF t)) H (fun v H'=>WO E hp dr os (cS t d v) H' K)):WO E hp dr (⟨d,none,.gf x args⟩::os) t H K:=by
 obtain ⟨n,v,H1,he,m,t',H',h,hq⟩:=h;refine ⟨max n m,t',H',?_,hq⟩;rw [aZ];simp only [dh,bW,RO.kind,hx];rw [n6 (zby n m) he];dsimp only;rw [dU];exact kP (zbs n m) h
theorem IX {f:Nat} {xs:List AV} {r:AV} {K:AV->List Obj->Prop} (hf:dr=true\/hp f=false) (hx:AV.aR 0 xs=true) (h:Pt E hp f xs r) (hk:K r H):WC E hp dr f xs H K:=by
 obtain ⟨n,h⟩:=h;refine ⟨n,r,H,?_,hk⟩;have hf':¬ (bif dr then fun _=>false else hp) f=true:=by
  rcases hf with rfl | hf
  ·simp
  ·cases dr<;>simp [hf]
 unfold bJ;rw [if_neg hf'];simp only [snaps,tN _ _ _ hx,h,hx,Bool.true_or,if_true]
theorem Sw {f:Nat} {xs ys:List AV} {r:AV} {K:AV->List Obj->Prop} (hf:dr=true\/hp f=false) (hx:snaps H xs=some ys) (h:Pt E hp f ys r) (hr:r.flat=true) (hk:K r H):WC E hp dr f xs H K:=by
 obtain ⟨n,h⟩:=h;refine ⟨n,r,H,?_,hk⟩;have hf':¬ (bif dr then fun _=>false else hp) f=true:=by
  rcases hf with rfl | hf
  ·simp
  ·cases dr<;>simp [hf]
 unfold bJ;rw [if_neg hf'];simp only [hx,h,hr,zbK,if_true]
theorem M6 {f:Nat} {xs:List AV} {r:AV} {H':List Obj} {K:AV->List Obj->Prop} {rf:RF} (hf:hp f=true\/snaps H xs=none) (hfn:E.fns f=some rf) (hn:¬ xs.length=rf.nargs)
 (h:JL rf xs H=some (r,H')) (hk:K r H'):WC E hp false f xs H K:=by
 refine ⟨0,r,H',?_,hk⟩;unfold bJ;simp only [cond_false];have e:kg E.fns (ak E hp 0) (some f) xs H=some (r,H'):=by
  have hb:Nat.beq xs.length rf.nargs=false:=by
   cases hb:Nat.beq xs.length rf.nargs with
   | false=>rfl
   | true=>exact (hn (za3 hb)).elim
  simp only [kg,hfn,hn,false_and,if_false,hb,cond_false,h]
 by_cases h1:hp f=true
 ·rw [if_pos h1];exact e
 ·rw [if_neg h1,hf.resolve_left h1];exact e
theorem IY {f:Nat} {xs:List AV} {K:AV->List Obj->Prop} {rf:RF} (hf:hp f=true) (hfn:E.fns f=some rf) (hn:xs.length=rf.nargs) (hm:rf.nargs<=rf.ntmps)
 (h:WP E hp rf.body H.length (fun e s'=>match e with | .exit _=>False | _=>∃ l,bQ rf.results s'=some l/\K (oneOf l) s'.H) ⟨eZ rf xs,H⟩):WC E hp false f xs H K:=by
 obtain ⟨n,e,s',h,hq⟩:=h
 cases e with
 | exit i=>exact hq.elim
 | normal=>
  obtain ⟨l,h1,h2⟩:=hq;refine ⟨n,_,_,?_,h2⟩;unfold bJ;simp only [cond_false];rw [if_pos hf];simp only [kg,hfn,hn,hm,and_self,if_true,h,h1]
 | ret=>
  obtain ⟨l,h1,h2⟩:=hq;refine ⟨n,_,_,?_,h2⟩;unfold bJ;simp only [cond_false];rw [if_pos hf];simp only [kg,hfn,hn,hm,and_self,if_true,h,h1]
theorem aaW {f:Nat} {xs:List AV} {r:AV} {rf:RF} (hfn:E.fns f=some rf) (hn:xs.length=rf.nargs) (hm:rf.nargs<=rf.ntmps)
 (h:WP E hp rf.body 0 (fun e s'=>match e with | .exit _=>False | _=>∃ l,bQ rf.results s'=some l/\pack s'.H (oneOf l)=some r) ⟨eZ rf xs,[]⟩):Pt E hp f xs r:=by
 obtain ⟨n,e,s',h,hq⟩:=h
 cases e with
 | exit i=>exact hq.elim
 | normal=>
  obtain ⟨l,h1,h2⟩:=hq;exact ⟨n,by simp only [kh,hfn,hn,hm,and_self,if_true,h,h1,h2]⟩
 | ret=>
  obtain ⟨l,h1,h2⟩:=hq;exact ⟨n,by simp only [kh,hfn,hn,hm,and_self,if_true,h,h1,h2]⟩
theorem Sx {o:bH} {os:List bH} (hw:dh t o.guard=some false):WO E hp dr (o::os) t H K↔WO E hp dr os (cS t o.dst (.aY [])) H K:=by
 unfold WO;constructor
 ·rintro ⟨n,t',H',h,hq⟩;rw [aZ,hw] at h;exact ⟨n,t',H',h,hq⟩
 ·rintro ⟨n,t',H',h,hq⟩;exact ⟨n,t',H',by rw [aZ,hw];exact h,hq⟩
theorem abo {d:Option Nat} {g:Option (Nat×Bool)} {x:RO} {os:List bH} (hw:dh t g=some true):WO E hp dr (⟨d,g,x⟩::os) t H K↔WO E hp dr (⟨d,none,x⟩::os) t H K:=by
 unfold WO;have e:∀ n,aZ E.aF (bif dr then fun _=>false else hp) (kh E.fns (ak E hp n)) (bif dr then fun _ _ _=>none else kg E.fns (ak E hp n)) (⟨d,g,x⟩::os) t H=
  aZ E.aF (bif dr then fun _=>false else hp) (kh E.fns (ak E hp n)) (bif dr then fun _ _ _=>none else kg E.fns (ak E hp n)) (⟨d,none,x⟩::os) t H:=by
  intro n;rw [aZ,aZ];have e1:dh t (none:Option (Nat×Bool))=some true:=rfl;dsimp only;rw [hw,e1]
 simp only [e]
theorem Sy {o:bH} {os:List bH} {v:AV} {H1:List Obj} (hk:o.op.kind≠ .call) (hw:dh t o.guard=some true) (he:KF (ga E.aF t) H.length o.op H=some (v,H1))
 (h:WO E hp dr os (cS t o.dst v) H1 K):WO E hp dr (o::os) t H K:=by
 refine (abn hk).2 ?_;rw [hw];dsimp only;rw [he];exact h
theorem Sz {o:bH} {os:List bH} (hw:dh t o.guard=some false) (h:WO E hp dr os (cS t o.dst (.aY [])) H K):WO E hp dr (o::os) t H K:=(Sx hw).2 h
end
end Go.Am.As
