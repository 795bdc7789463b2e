/- Proofs about what the machine computes: weakest preconditions over code, by rules. No condition. -/
import Derived.Test.YtafgdbaekppjcaaGreatDoorAmZ1
set_option linter.unusedSectionVars false
set_option linter.unusedVariables false
set_option linter.unusedSimpArgs false
namespace Go.Am.As
section
variable {G:Nat->List AV} {hp:Nat->Bool}
theorem gk {a b:CI} {c d:CH} (h1:a.le b) (h2:c.le d):∀ (os:List bH) {t:T} {H:List Obj} {r},bg G hp a c os t H=some r->bg G hp b d os t H=some r
 | [],_,_,_,h=>h
 | o::os,t,H,r,h=>by
  rw [bg] at h ⊢;split at h
  ·rename_i hw;try simp only [hw]
   split at h
   case h_2=>simp at h
   rename_i v H1 he;rw [gf h1 h2 he];simp only [eo] at h ⊢;exact gk h1 h2 os h
  ·rename_i hw;try simp only [hw]
   exact gk h1 h2 os h
  ·simp at h
theorem nV {a b:CI} {c d:CH} (h1:a.le b) (h2:c.le d) (bf:List Nat):∀ (os:List bH) {i:Nat} {rs:List (Nat×(List Obj->Option AV)×AV)} {hs:List (Nat×List Obj×List Obj)} {t:T} {H:List Obj} {r},g9 G hp a c bf os i rs hs t H=some r->g9 G hp b d bf os i rs hs t H=some r
 | [],_,_,_,_,_,_,h=>h
 | o::os,i,rs,hs,t,H,r,h=>by
  rw [g9] at h ⊢;split at h
  ·simp at h
  rename_i v H1 ha;have Sy:lA G hp b d o t H=some (v,H1):=by
   unfold lA at ha ⊢;split at ha
   ·rename_i hw;try rw [hw]
    exact gf h1 h2 ha
   ·exact ha
   ·simp at ha
  rw [Sy];simp only [eo] at h ⊢
  cases hk:o.op.kind<;>rw [hk] at h<;>dsimp only at h ⊢
  ·exact nV h1 h2 bf os h
  all_goals
   split at h
   case isFalse=>simp at h
   rename_i hc;rw [if_pos hc];exact nV h1 h2 bf os h
theorem Dp {a b:CI} (h1:a.le b) {pl:Nat} {o:bH} {t:T} {H:List Obj} {r} (h:nF G a pl o t H=some r):nF G b pl o t H=some r:=by
 unfold nF at h ⊢;split at h
 ·rename_i hw;try simp only [hw]
  split at h
  case isFalse=>simp at h
  rename_i hp';rw [if_pos hp'];split at h
  case h_2=>simp at h
  rename_i he;rw [zD h1 he];exact h
 ·rename_i hw;(try simp only [hw]);exact h
 ·simp at h
theorem rV {a b:CI} (h1:a.le b) {k:Nat}:∀ (os:List (Nat×bH)) {t:T} {H:List Obj} {r},gF G a k os t H=some r->gF G b k os t H=some r
 | [],_,_,_,h=>h
 | (p,o)::os,t,H,r,h=>by
  rw [gF] at h ⊢;split at h
  case h_2=>simp at h
  rename_i v H1 f ha;rw [Dp h1 ha];simp only [eo] at h ⊢;split at h
  case h_2=>simp at h
  rename_i hr;rw [rV h1 os hr];exact h
end
def qB.le (a b:qB):Prop:=∀ c k s r,a c k s=some r->b c k s=some r
theorem IW {a b:qB} (h:a.le b) {rf:RF} {xs:List AV} {r:AV} (hr:EO a rf xs=some r):EO b rf xs=some r:=by
 unfold EO at hr ⊢;split at hr
 case h_2=>simp at hr
 rename_i as;split at hr
 case isFalse=>simp at hr
 rename_i hc;change (if as.length=rf.nargs/\rf.nargs<=rf.ntmps then _ else none)=some r;rw [if_pos hc]
 cases he:a rf.body 0 ⟨fm rf as,[]⟩ with
 | none=>rw [he] at hr;simp at hr
 | some q=>rw [he] at hr;rw [h _ _ _ _ he];exact hr
theorem ep (fns:Nat->Option RF) {a b:qB} (h:a.le b):(j5 fns a).le (j5 fns b):=by
 intro f xs r hr;unfold j5 at hr ⊢;split at hr
 case h_2=>simp at hr
 rename_i rf si;try simp only [si]
 split at hr
 case isFalse=>rename_i hc;rw [if_neg hc];exact IW h hr
 rename_i hc;rw [if_pos hc]
 cases he:a rf.body 0 ⟨fm rf xs,[]⟩ with
 | none=>rw [he] at hr;simp at hr
 | some q=>rw [he] at hr;rw [h _ _ _ _ he];exact hr
theorem z6 {a b:qB} (h:a.le b) {xs:List AV} {H:List Obj} {r:AV×List Obj} (e:vT a xs H=some r):vT b xs H=some r:=by
 unfold vT at e ⊢;split at e
 case h_2=>simp at e
 rename_i l xs;split at e
 case h_2=>simp at e
 rename_i t ps b6 body hl;try simp only [hl]
 split at e
 case isFalse=>simp at e
 rename_i hlen;rw [if_pos hlen];split at e
 case h_2=>simp at e
 rename_i s1 h1;rw [h _ _ _ _ h1];(try dsimp only);split at e
 case h_2=>simp at e
 rename_i H1 F4;try simp only [F4]
 split at e
 ·rename_i s2 h2;rw [h _ _ _ _ h2];exact e
 ·rename_i e' s2 hne h2;rw [h _ _ _ _ h2]
  cases e' with
  | normal=>exact (hne rfl).elim
  | exit i=>exact e
  | ret=>exact e
 ·simp at e
theorem fT (fns:Nat->Option RF) {a b:qB} (h:a.le b):(kh fns a).le (kh fns b):=by
 intro f xs H r hr;unfold kh at hr ⊢
 cases f with
 | none=>exact z6 h hr
 | some f=>
 dsimp only at hr ⊢;split at hr
 case h_2=>simp at hr
 rename_i rf si;try simp only [si]
 split at hr
 case isFalse=>simp at hr
 rename_i hc;rw [if_pos hc]
 cases he:a rf.body H.length ⟨fm rf xs,H⟩ with
 | none=>rw [he] at hr;simp at hr
 | some q=>rw [he] at hr;rw [h _ _ _ _ he];exact hr
theorem yc (E:Env) (hp:Nat->Bool):∀ n,qB.le (ak E hp n) (ak E hp (n+1))
 | 0=>by intro c k s r h;simp [ak] at h
 | n+1=>by
  have ih:=yc E hp n;intro c k s r h
  cases c with
  | bad=>simp [ak] at h
  | skip=>exact h
  | ret=>exact h
  | exit i=>exact h
  | seq a b=>
   rw [ak] at h ⊢;split at h
   ·rename_i s1 h1;rw [ih _ _ _ _ h1];exact ih _ _ _ _ h
   ·rename_i hne
    cases r with
    | mk e s1=>
     rw [ih _ _ _ _ h]
     cases e with
     | normal=>exact (hne _ h).elim
     | _=>rfl
  | cond x a b=>
   rw [ak] at h ⊢;split at h
   ·rename_i hx;(try simp only [hx]);exact ih _ _ _ _ h
   ·rename_i hx;(try simp only [hx]);exact ih _ _ _ _ h
   ·simp at h
  | block i b=>
   rw [ak] at h ⊢;split at h
   ·rename_i j s1 h1;rw [ih _ _ _ _ h1];exact h
   ·rename_i hne
    cases r with
    | mk e s1=>
     rw [ih _ _ _ _ h]
     cases e with
     | exit j=>exact (hne _ _ h).elim
     | _=>rfl
  | loop b=>
   rw [ak] at h ⊢;split at h
   ·rename_i s1 h1;rw [ih _ _ _ _ h1];exact ih _ _ _ _ h
   ·rename_i hne
    cases r with
    | mk e s1=>
     rw [ih _ _ _ _ h]
     cases e with
     | normal=>exact (hne _ h).elim
     | _=>rfl
  | u6 ops=>
   rw [ak] at h ⊢;split at h
   case h_2=>simp at h
   rename_i h1;rw [gk (ep E.fns ih) (fT E.fns ih) ops h1];exact h
  | draw ops=>
   rw [ak] at h ⊢;split at h
   case h_2=>simp at h
   rename_i h1;rw [gk (d:=fun _ _ _=>none) (ep E.fns ih) (fun _ _ _ _ h=>h) ops h1];exact h
  | jG ops bf=>
   rw [ak] at h ⊢;split at h
   case h_2=>simp at h
   rename_i h1;rw [nV (ep E.fns ih) (fT E.fns ih) bf ops h1];exact h
  | kr ops k ps=>
   rw [ak] at h ⊢;split at h
   case h_2=>simp at h
   rename_i h1;rw [rV (ep E.fns ih) ops h1];exact h
  | gh pre r0 post=>
   rw [ak] at h ⊢;split at h
   case h_2=>simp at h
   rename_i s0 h0;split at h
   ·rename_i s1 h1;rw [ih _ _ _ _ h1];exact h
   ·rename_i hne
    cases r with
    | mk e s1=>
     rw [ih _ _ _ _ h]
     cases e with
     | normal=>exact (hne _ h).elim
     | _=>rfl
  | Ay g ps b6 body=>
   rw [ak] at h ⊢;split at h
   case h_2=>simp at h
   rename_i f cap hx
   (try simp only [hx])
   split at h
   case h_2=>simp at h
   rename_i u H' h1;rw [fT E.fns ih _ _ _ _ h1];exact h
theorem bM {E:Env} {hp:Nat->Bool} {n m:Nat} (h:n<=m):qB.le (ak E hp n) (ak E hp m):=by
 induction h with
 | refl=>intro c k s r h;exact h
 | step _ ih=>intro c k s r h;exact yc E hp _ c k s r (ih c k s r h)
def WP (E:Env) (hp:Nat->Bool) (c:RC) (b:Nat) (Q:Ex->ST->Prop) (s:ST):Prop:=∃ n e s',ak E hp n c b s=some (e,s')/\Q e s'
def WO (E:Env) (hp:Nat->Bool) (dr:Bool) (os:List bH) (t:T) (H:List Obj) (K:T->List Obj->Prop):Prop:=
 ∃ n t' H',bg E.aJ (bif dr then fun _=>false else hp) (j5 E.fns (ak E hp n)) (bif dr then fun _ _ _=>none else kh E.fns (ak E hp n)) os t H=some (t',H')/\K t' H'
def WC (E:Env) (hp:Nat->Bool) (dr:Bool) (f:Nat) (xs:List AV) (H:List Obj) (K:AV->List Obj->Prop):Prop:=
 ∃ n v H',bK (bif dr then fun _=>false else hp) (j5 E.fns (ak E hp n)) (bif dr then fun _ _ _=>none else kh E.fns (ak E hp n)) f xs H=some (v,H')/\K v H'
def Pt (E:Env) (hp:Nat->Bool) (f:Nat) (xs:List AV) (r:AV):Prop:=∃ n,j5 E.fns (ak E hp n) f xs=some r
theorem Pt.pu {E:Env} {hp:Nat->Bool} {f:Nat} {xs:List AV} {r:AV} (h:Pt E hp f xs r):Pu E hp f xs r:=by
 obtain ⟨n,h⟩:=h;exact ⟨n,wJ E.fns (uw E hp n) _ _ _ h⟩
section
variable {E:Env} {hp:Nat->Bool} {b:Nat} {Q:Ex->ST->Prop} {s:ST}
theorem WP.mono {c:RC} {Q':Ex->ST->Prop} (h:WP E hp c b Q s) (hq:∀ e s',Q e s'->Q' e s'):WP E hp c b Q' s:=by
 obtain ⟨n,e,s',h1,h2⟩:=h;exact ⟨n,e,s',h1,hq _ _ h2⟩
theorem PU:WP E hp .skip b Q s↔Q .normal s:=
 ⟨fun ⟨n,e,s',h,hq⟩=>by cases n<;>simp [ak] at h;obtain ⟨rfl,rfl⟩:=h;exact hq,fun h=>⟨1,_,_,rfl,h⟩⟩
theorem UF:WP E hp .ret b Q s↔Q .ret s:=
 ⟨fun ⟨n,e,s',h,hq⟩=>by cases n<;>simp [ak] at h;obtain ⟨rfl,rfl⟩:=h;exact hq,fun h=>⟨1,_,_,rfl,h⟩⟩
theorem PW {i:Nat}:WP E hp (.exit i) b Q s↔Q (.exit i) s:=
 ⟨fun ⟨n,e,s',h,hq⟩=>by cases n<;>simp [ak] at h;obtain ⟨rfl,rfl⟩:=h;exact hq,fun h=>⟨1,_,_,rfl,h⟩⟩
theorem UG {x y:RC}:WP E hp (.seq x y) b Q s↔WP E hp x b (fun e s'=>match e with | .normal=>WP E hp y b Q s' | .exit i=>Q (.exit i) s' | .ret=>Q .ret s') s:=by
 constructor
 ·rintro ⟨n,e,s',h,hq⟩
  cases n with
  | zero=>simp [ak] at h
  | succ n=>
   rw [ak] at h;split at h
   ·rename_i s1 h1;exact ⟨n,_,_,h1,n,e,s',h,hq⟩
   ·rename_i hne;refine ⟨n,e,s',h,?_⟩
    cases e with
    | normal=>exact (hne _ h).elim
    | _=>exact hq
 ·rintro ⟨n,e,s1,h,hq⟩
  cases e with
  | normal=>
   obtain ⟨m,e,s',h',hq⟩:=hq;refine ⟨max n m+1,e,s',?_,hq⟩;rw [ak,bM (zbp n m) _ _ _ _ h];exact bM (zbd n m) _ _ _ _ h'
  | exit i=>exact ⟨n+1,_,_,by rw [ak,h],hq⟩
  | ret=>exact ⟨n+1,_,_,by rw [ak,h],hq⟩
theorem PX {x:RX} {p q:RC}:WP E hp (.cond x p q) b Q s↔(match gq E.aJ s.tmps x with | .bool true=>WP E hp p b Q s | .bool false=>WP E hp q b Q s | _=>False):=by
 constructor
 ·rintro ⟨n,e,s',h,hq⟩
  cases n with
  | zero=>simp [ak] at h
  | succ n=>
   rw [ak] at h;split at h
   ·rename_i hx;(try rw [hx]);exact ⟨n,e,s',h,hq⟩
   ·rename_i hx;(try rw [hx]);exact ⟨n,e,s',h,hq⟩
   ·simp at h
 ·intro h;split at h
  ·rename_i hx;obtain ⟨n,e,s',h,hq⟩:=h;exact ⟨n+1,e,s',by rw [ak,hx];exact h,hq⟩
  ·rename_i hx;obtain ⟨n,e,s',h,hq⟩:=h;exact ⟨n+1,e,s',by rw [ak,hx];exact h,hq⟩
  ·exact h.elim
theorem xk {i:Nat} {p:RC}:WP E hp (.block i p) b Q s↔WP E hp p b (fun e s'=>match e with | .normal=>Q .normal s' | .exit j=>if j=i then Q .normal s' else Q (.exit j) s' | .ret=>Q .ret s') s:=by
 constructor
 ·rintro ⟨n,e,s',h,hq⟩
  cases n with
  | zero=>simp [ak] at h
  | succ n=>
   rw [ak] at h;split at h
   ·rename_i j s1 h1;refine ⟨n,_,_,h1,?_⟩;dsimp only;split at h<;>simp only [za1,za4] at h<;>obtain ⟨rfl,rfl⟩:=h
    ·rename_i hj;rw [if_pos hj];exact hq
    ·rename_i hj;rw [if_neg hj];exact hq
   ·rename_i hne;refine ⟨n,e,s',h,?_⟩
    cases e with
    | exit j=>exact (hne _ _ h).elim
    | _=>exact hq
 ·rintro ⟨n,e,s1,h,hq⟩
  cases e with
  | normal=>exact ⟨n+1,_,_,by rw [ak,h],hq⟩
  | ret=>exact ⟨n+1,_,_,by rw [ak,h],hq⟩
  | exit j=>
   dsimp only at hq;split at hq
   ·rename_i hj;exact ⟨n+1,_,_,by rw [ak,h];dsimp only;rw [if_pos hj],hq⟩
   ·rename_i hj;exact ⟨n+1,_,_,by rw [ak,h];dsimp only;rw [if_neg hj],hq⟩
theorem Kq {pre post:List GA} {p:RC}:WP E hp (.gh pre p post) b Q s↔(match cN b pre s with
 | some s0=>WP E hp p b (fun e s'=>match e with | .normal=>(match cN b post s' with | some s''=>Q .normal s'' | none=>False) | .exit j=>Q (.exit j) s' | .ret=>Q .ret s') s0
 | none=>False):=by
 constructor
 ·rintro ⟨n,e,s',h,hq⟩
  cases n with
  | zero=>simp [ak] at h
  | succ n=>
   rw [ak] at h;split at h
   case h_2=>simp at h
   rename_i s0 h0;simp only [h0];split at h
   ·rename_i s1 h1;split at h
    case h_2=>simp at h
    rename_i s2 h2;simp only [za1,za4] at h;obtain ⟨rfl,rfl⟩:=h;exact ⟨n,_,_,h1,by simp only [h2];exact hq⟩
   ·rename_i hne;refine ⟨n,e,s',h,?_⟩
    cases e with
    | normal=>exact (hne _ h).elim
    | _=>exact hq
 ·intro h;split at h
  case h_2=>exact h.elim
  rename_i s0 h0;obtain ⟨n,e,s1,h,hq⟩:=h
  cases e with
  | normal=>
   dsimp only at hq;split at hq
   case h_2=>exact hq.elim
   rename_i s2 h2;exact ⟨n+1,_,_,by rw [ak,h0];dsimp only;rw [h];dsimp only;rw [h2],hq⟩
  | exit j=>exact ⟨n+1,_,_,by rw [ak,h0];dsimp only;rw [h],hq⟩
  | ret=>exact ⟨n+1,_,_,by rw [ak,h0];dsimp only;rw [h],hq⟩
theorem UI {os:List bH}:WP E hp (.u6 os) b Q s↔WO E hp false os s.tmps s.H (fun t H=>Q .normal ⟨t,H⟩):=by
 constructor
 ·rintro ⟨n,e,s',h,hq⟩
  cases n with
  | zero=>simp [ak] at h
  | succ n=>
   rw [ak] at h;split at h
   case h_2=>simp at h
   rename_i t H h1;simp only [za1,za4] at h;obtain ⟨rfl,rfl⟩:=h;exact ⟨n,t,H,h1,hq⟩
 ·rintro ⟨n,t,H,h,hq⟩;simp only [cond_false] at h;exact ⟨n+1,_,_,by rw [ak,h],hq⟩
theorem PY {os:List bH}:WP E hp (.draw os) b Q s↔WO E hp true os s.tmps s.H (fun t H=>Q .normal ⟨t,H⟩):=by
 constructor
 ·rintro ⟨n,e,s',h,hq⟩
  cases n with
  | zero=>simp [ak] at h
  | succ n=>
   rw [ak] at h;split at h
   case h_2=>simp at h
   rename_i t H h1;simp only [za1,za4] at h;obtain ⟨rfl,rfl⟩:=h;exact ⟨n,t,H,h1,hq⟩
 ·rintro ⟨n,t,H,h,hq⟩;simp only [cond_true] at h;exact ⟨n+1,_,_,by rw [ak,h],hq⟩
variable {dr:Bool} {t:T} {H:List Obj} {K:T->List Obj->Prop}
theorem Lq:WO E hp dr [] t H K↔K t H:=
 ⟨fun ⟨n,t',H',h,hq⟩=>by simp only [bg,za1,za4] at h;obtain ⟨rfl,rfl⟩:=h;exact hq,fun h=>⟨0,_,_,rfl,h⟩⟩
def Jm (ev:RX->AV) (pl:Nat) (x:RO) (H:List Obj):Option (AV×List Obj):=bV ev (fun _=>false) (fun _ _=>none) (fun _ _ _=>none) pl x H
theorem Fj {ev:RX->AV} {hp:Nat->Bool} {cI:CI} {cH:CH} {pl:Nat} {x:RO} {H:List Obj} (hk:x.kind≠ .call):bV ev hp cI cH pl x H=Jm ev pl x H:=by
 unfold Jm bV
 cases h:x.kind with
 | call=>exact (hk h).elim
 | _=>rfl
theorem Zr {o:bH} {os:List bH} (hk:o.op.kind≠ .call):WO E hp dr (o::os) t H K↔(match dn t o.guard with
 | some true=>(match Jm (gq E.aJ t) H.length o.op H with | some (v,H')=>WO E hp dr os (cZ t o.dst v) H' K | none=>False)
 | some false=>WO E hp dr os (cZ t o.dst (.bl [])) H K
 | none=>False):=by
 unfold WO;constructor
 ·rintro ⟨n,t',H',h,hq⟩;rw [bg] at h;split at h
  ·rename_i hw;try simp only [hw]
   rw [Fj hk] at h;split at h
   case h_2=>simp at h
   rename_i v H1 he;rw [eo] at h;simp only [he];exact ⟨n,t',H',h,hq⟩
  ·rename_i hw;try simp only [hw]
   exact ⟨n,t',H',h,hq⟩
  ·simp at h
 ·intro h;split at h
  ·rename_i hw;split at h
   case h_2=>exact h.elim
   rename_i v H1 he;obtain ⟨n,t',H',h,hq⟩:=h;refine ⟨n,t',H',?_,hq⟩;rw [bg,hw];dsimp only;rw [Fj hk,he];dsimp only;rw [eo];exact h
  ·rename_i hw;obtain ⟨n,t',H',h,hq⟩:=h;exact ⟨n,t',H',by rw [bg,hw];exact h,hq⟩
  ·exact h.elim
theorem nZ {n m:Nat} (h:n<=m) {f:Nat} {xs:List AV} {r}
 (hd:bK (bif dr then fun _=>false else hp) (j5 E.fns (ak E hp n)) (bif dr then fun _ _ _=>none else kh E.fns (ak E hp n)) f xs H=some r):
 bK (bif dr then fun _=>false else hp) (j5 E.fns (ak E hp m)) (bif dr then fun _ _ _=>none else kh E.fns (ak E hp m)) f xs H=some r:=by
 refine oB (ep E.fns (bM h)) ?_ hd
 cases dr with
 | true=>exact fun _ _ _ _ h=>h
 | false=>exact fT E.fns (bM h)
theorem kH {n m:Nat} (h:n<=m) {os:List bH} {r}
 (hd:bg E.aJ (bif dr then fun _=>false else hp) (j5 E.fns (ak E hp n)) (bif dr then fun _ _ _=>none else kh E.fns (ak E hp n)) os t H=some r):
 bg E.aJ (bif dr then fun _=>false else hp) (j5 E.fns (ak E hp m)) (bif dr then fun _ _ _=>none else kh E.fns (ak E hp m)) os t H=some r:=by
 refine gk (ep E.fns (bM h)) ?_ os hd
 cases dr with
 | true=>exact fun _ _ _ _ h=>h
 | false=>exact fT E.fns (bM h)
theorem Qs {d:Option Nat} {f:Nat} {args:List RX} {os:List bH}:
 WO E hp dr (⟨d,none,.call f args⟩::os) t H K↔WC E hp dr f (args.map (gq E.aJ t)) H (fun v H'=>WO E hp dr os (cZ t d v) H' K):=by
 unfold WO WC;constructor
 ·rintro ⟨n,t',H',h,hq⟩;rw [bg] at h;simp only [dn,bV,RO.kind] at h;split at h
  case h_2=>simp at h
  rename_i v H1 he;rw [eo] at h;exact ⟨n,v,H1,he,n,t',H',h,hq⟩
 ·rintro ⟨n,v,H1,he,m,t',H',h,hq⟩;refine ⟨max n m,t',H',?_,hq⟩;rw [bg];simp only [dn,bV,RO.kind];rw [nZ (zbp n m) he];dsimp only;rw [eo];exact kH (zbd n m) h
theorem M4 {d:Option Nat} {x:RX} {args:List RX} {os:List bH} {f:Nat} {cap:List AV} (hx:gq E.aJ t x= .fn f cap):
 WO E hp dr (⟨d,none,.gr x args⟩::os) t H K↔WC E hp dr f (args.map (gq E.aJ t)++cap) H (fun v H'=>WO E hp dr os (cZ t d v) H' K):=by
 unfold WO WC;constructor
 ·rintro ⟨n,t',H',h,hq⟩;rw [bg] at h;simp only [dn,bV,RO.kind,hx] at h;split at h
  case h_2=>simp at h
  rename_i v H1 he;rw [eo] at h;exact ⟨n,v,H1,he,n,t',H',h,hq⟩
 ·rintro ⟨n,v,H1,he,m,t',H',h,hq⟩;refine ⟨max n m,t',H',?_,hq⟩;rw [bg];simp only [dn,bV,RO.kind,hx];rw [nZ (zbp n m) he];dsimp only;rw [eo];exact kH (zbd n m) h
theorem M6 {d:Option Nat} {x:RX} {args:List RX} {os:List bH} {f:Nat} {l:List AV} (hx:gq E.aJ t x= .b8 f l)
 (h:WC E hp dr f (l++args.map (gq E.aJ t)) H (fun v H'=>WO E hp dr os (cZ t d v) H' K)):WO E hp dr (⟨d,none,.gr x args⟩::os) t H K:=by
 obtain ⟨n,v,H1,he,m,t',H',h,hq⟩:=h;refine ⟨max n m,t',H',?_,hq⟩;rw [bg];simp only [dn,bV,RO.kind,hx];rw [nZ (zbp n m) he];dsimp only;rw [eo];exact kH (zbd n m) h
theorem Hu {f:Nat} {xs:List AV} {r:AV} {K:AV->List Obj->Prop} (hf:dr=true\/hp f=false) (hx:AV.aT 0 xs=true) (h:Pt E hp f xs r) (hk:K r H):WC E hp dr f xs H K:=by
 obtain ⟨n,h⟩:=h;refine ⟨n,r,H,?_,hk⟩;have hf':¬ (bif dr then fun _=>false else hp) f=true:=by
  rcases hf with rfl | hf
  ·simp
  ·cases dr<;>simp [hf]
 unfold bK;rw [if_neg hf'];simp only [snaps,tL _ _ _ hx,h,hx,Bool.true_or,if_true]
theorem Qt {f:Nat} {xs ys:List AV} {r:AV} {K:AV->List Obj->Prop} (hf:dr=true\/hp f=false) (hx:snaps H xs=some ys) (h:Pt E hp f ys r) (hr:r.flat=true) (hk:K r H):WC E hp dr f xs H K:=by
 obtain ⟨n,h⟩:=h;refine ⟨n,r,H,?_,hk⟩;have hf':¬ (bif dr then fun _=>false else hp) f=true:=by
  rcases hf with rfl | hf
  ·simp
  ·cases dr<;>simp [hf]
 unfold bK;rw [if_neg hf'];simp only [hx,h,hr,zbX,if_true]
theorem Hw {f:Nat} {xs:List AV} {K:AV->List Obj->Prop} {rf:RF} (hf:hp f=true) (hfn:E.fns f=some rf) (hn:xs.length=rf.nargs) (hm:rf.nargs<=rf.ntmps)
 (h:WP E hp rf.body H.length (fun e s'=>match e with | .exit _=>False | _=>∃ l,bP rf.results s'=some l/\K (oneOf l) s'.H) ⟨fm rf xs,H⟩):WC E hp false f xs H K:=by
 obtain ⟨n,e,s',h,hq⟩:=h
 cases e with
 | exit i=>exact hq.elim
 | normal=>
  obtain ⟨l,h1,h2⟩:=hq;refine ⟨n,_,_,?_,h2⟩;unfold bK;simp only [cond_false];rw [if_pos hf];simp only [kh,hfn,hn,hm,and_self,if_true,h,h1]
 | ret=>
  obtain ⟨l,h1,h2⟩:=hq;refine ⟨n,_,_,?_,h2⟩;unfold bK;simp only [cond_false];rw [if_pos hf];simp only [kh,hfn,hn,hm,and_self,if_true,h,h1]
theorem Y3 {f:Nat} {xs:List AV} {r:AV} {rf:RF} (hfn:E.fns f=some rf) (hn:xs.length=rf.nargs) (hm:rf.nargs<=rf.ntmps)
 (h:WP E hp rf.body 0 (fun e s'=>match e with | .exit _=>False | _=>∃ l,bP rf.results s'=some l/\pack s'.H (oneOf l)=some r) ⟨fm rf xs,[]⟩):Pt E hp f xs r:=by
 obtain ⟨n,e,s',h,hq⟩:=h
 cases e with
 | exit i=>exact hq.elim
 | normal=>
  obtain ⟨l,h1,h2⟩:=hq;exact ⟨n,by simp only [j5,hfn,hn,hm,and_self,if_true,h,h1,h2]⟩
 | ret=>
  obtain ⟨l,h1,h2⟩:=hq;exact ⟨n,by simp only [j5,hfn,hn,hm,and_self,if_true,h,h1,h2]⟩
theorem Qu {o:bH} {os:List bH} (hw:dn t o.guard=some false):WO E hp dr (o::os) t H K↔WO E hp dr os (cZ t o.dst (.bl [])) H K:=by
 unfold WO;constructor
 ·rintro ⟨n,t',H',h,hq⟩;rw [bg,hw] at h;exact ⟨n,t',H',h,hq⟩
 ·rintro ⟨n,t',H',h,hq⟩;exact ⟨n,t',H',by rw [bg,hw];exact h,hq⟩
theorem Zs {d:Option Nat} {g:Option (Nat×Bool)} {x:RO} {os:List bH} (hw:dn t g=some true):WO E hp dr (⟨d,g,x⟩::os) t H K↔WO E hp dr (⟨d,none,x⟩::os) t H K:=by
 unfold WO;have e:∀ n,bg E.aJ (bif dr then fun _=>false else hp) (j5 E.fns (ak E hp n)) (bif dr then fun _ _ _=>none else kh E.fns (ak E hp n)) (⟨d,g,x⟩::os) t H=
  bg E.aJ (bif dr then fun _=>false else hp) (j5 E.fns (ak E hp n)) (bif dr then fun _ _ _=>none else kh E.fns (ak E hp n)) (⟨d,none,x⟩::os) t H:=by
  intro n;rw [bg,bg];have e1:dn t (none:Option (Nat×Bool))=some true:=rfl;dsimp only;rw [hw,e1]
 simp only [e]
theorem Qv {o:bH} {os:List bH} {v:AV} {H1:List Obj} (hk:o.op.kind≠ .call) (hw:dn t o.guard=some true) (he:Jm (gq E.aJ t) H.length o.op H=some (v,H1))
 (h:WO E hp dr os (cZ t o.dst v) H1 K):WO E hp dr (o::os) t H K:=by
 refine (Zr hk).2 ?_;rw [hw];dsimp only;rw [he];exact h
theorem Qw {o:bH} {os:List bH} (hw:dn t o.guard=some false) (h:WO E hp dr os (cZ t o.dst (.bl [])) H K):WO E hp dr (o::os) t H K:=(Qu hw).2 h
end
end Go.Am.As
