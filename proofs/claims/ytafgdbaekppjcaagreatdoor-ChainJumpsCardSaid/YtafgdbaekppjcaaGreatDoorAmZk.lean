/- The machine with a table of known calls. -/
import Derived.Test.YtafgdbaekppjcaaGreatDoorAmWp
set_option linter.unusedSectionVars false
set_option linter.unusedVariables false
set_option linter.unusedSimpArgs false
namespace Go.Am.As
def look:List (Nat×List AV×AV)->Nat->List AV->Option AV
 | [],_,_=>none
 | (g,ys,r)::l,f,xs=>if (Nat.beq g f&&AV.iJ ys xs)=true then some r else look l f xs
theorem tP:∀ {eg:List (Nat×List AV×AV)} {f:Nat} {xs:List AV} {r:AV},look eg f xs=some r->(f,xs,r)∈eg
 | [],f,xs,r,h=>by simp [look] at h
 | (g,ys,q)::l,f,xs,r,h=>by
  simp only [look] at h;split at h
  ·rename_i hc;simp only [za0] at hc;injection h with h
   rw [za3 hc.1,AV.gO hc.2,h];exact zaP
  ·exact zau _ (tP h)
def Hw (eg:List (Nat×List AV×AV)) (fns:Nat->Option RF) (ex:qF):CI:=fun f args=>match look eg f args with
 | some r=>some r
 | none=>kh fns ex f args
def jz (E:Env) (hp:Nat->Bool) (eg:List (Nat×List AV×AV)) (N:Nat):Prop:=∀ f xs r,(f,xs,r)∈eg->kh E.fns (ak E hp N) f xs=some r
def bG (E:Env) (hp:Nat->Bool) (eg:List (Nat×List AV×AV)):Nat->qF
 | 0,_,_,_=>none
 | n+1,c,base,s=>
  match c with
  | .bad=>none
  | .skip=>some (.normal,s)
  | .ret=>some (.ret,s)
  | .exit id=>some (.exit id,s)
  | .seq a b=>(match bG E hp eg n a base s with
   | some (.normal,s')=>bG E hp eg n b base s'
   | r=>r)
  | .cond x a b=>(match ga E.aF s.tmps x with
   | .bool true=>bG E hp eg n a base s
   | .bool false=>bG E hp eg n b base s
   | _=>none)
  | .block id b=>(match bG E hp eg n b base s with
   | some (.exit i,s')=>if i=id then some (.normal,s') else some (.exit i,s')
   | r=>r)
  | .loop b=>(match bG E hp eg n b base s with
   | some (.normal,s')=>bG E hp eg n (.loop b) base s'
   | r=>r)
  | .u5 ops=>(match aZ E.aF hp (Hw eg E.fns (bG E hp eg n)) (kg E.fns (bG E hp eg n)) ops s.tmps s.H with
   | some (t,H)=>some (.normal,⟨t,H⟩)
   | none=>none)
  | .draw ops=>(match aZ E.aF (fun _=>false) (Hw eg E.fns (bG E hp eg n)) (fun _ _ _=>none) ops s.tmps s.H with
   | some (t,H)=>some (.normal,⟨t,H⟩)
   | none=>none)
  | .jG ops bf=>(match g9 E.aF hp (Hw eg E.fns (bG E hp eg n)) (kg E.fns (bG E hp eg n)) bf ops 0 [] [] s.tmps s.H with
   | some (t,H)=>some (.normal,⟨t,H⟩)
   | none=>none)
  | .kB ops k ps=>(match gD E.aF (Hw eg E.fns (bG E hp eg n)) s.H.length ops s.tmps (s.H++List.replicate k .ew) with
   | some (t,H,fs)=>if gm fs ps=true then some (.normal,⟨t,H⟩) else none
   | none=>none)
  | .gh pre r post=>(match cF base pre s with
   | some s0=>(match bG E hp eg n r base s0 with
    | some (.normal,s')=>(match cF base post s' with | some s''=>some (.normal,s'') | none=>none)
    | r=>r)
   | none=>none)
  | .AT g ps b6 body=>(match ga E.aF s.tmps g with
   | .fn f cap=>(match kg E.fns (bG E hp eg n) (some f) (.fA s.H.length::cap) (s.H++[.lp .ready s.tmps.toL ps b6 body]) with
    | some (_,H')=>(match lg H' s.H.length with
     | some e=>some (e,⟨s.tmps,H'.set s.H.length .dead⟩)
     | none=>none)
    | none=>none)
   | _=>none)
theorem wK {E:Env} {hp:Nat->Bool} {eg:List (Nat×List AV×AV)} {N:Nat} (ht:jz E hp eg N) {n:Nat} {a:qF} (h:a.le (ak E hp (n+N))):(Hw eg E.fns a).le (kh E.fns (ak E hp (n+N))):=by
 intro f xs r hr;unfold Hw at hr;split at hr
 ·rename_i q hl;injection hr with hr;subst hr
  exact dW E.fns (bN (show N<=n+N by omega)) _ _ _ (ht _ _ _ (tP hl))
 ·exact dW E.fns h _ _ _ hr
theorem Ec {E:Env} {hp:Nat->Bool} {eg:List (Nat×List AV×AV)} {N:Nat} (ht:jz E hp eg N):∀ n,qF.le (bG E hp eg n) (ak E hp (n+N))
 | 0=>by intro c k s r h;simp [bG] at h
 | n+1=>by
  have ih:=Ec ht n;intro c k s r h;rw [show n+1+N=(n+N)+1 by omega]
  cases c with
  | bad=>simp [bG] at h
  | skip=>rw [bG] at h;rw [ak];exact h
  | ret=>rw [bG] at h;rw [ak];exact h
  | exit i=>rw [bG] at h;rw [ak];exact h
  | seq a b=>
   rw [bG] at h;rw [ak];split at h
   ·rename_i s1 h1;rw [ih _ _ _ _ h1];exact ih _ _ _ _ h
   ·rename_i hne
    cases r with
    | mk e s1=>
     rw [ih _ _ _ _ h]
     cases e with
     | normal=>exact (hne _ h).elim
     | _=>rfl
  | cond x a b=>
   rw [bG] at h;rw [ak];split at h
   ·rename_i hx;(try simp only [hx]);exact ih _ _ _ _ h
   ·rename_i hx;(try simp only [hx]);exact ih _ _ _ _ h
   ·simp at h
  | block i b=>
   rw [bG] at h;rw [ak];split at h
   ·rename_i j s1 h1;rw [ih _ _ _ _ h1];exact h
   ·rename_i hne
    cases r with
    | mk e s1=>
     rw [ih _ _ _ _ h]
     cases e with
     | exit j=>exact (hne _ _ h).elim
     | _=>rfl
  | loop b=>
   rw [bG] at h;rw [ak];split at h
   ·rename_i s1 h1;rw [ih _ _ _ _ h1];exact ih _ _ _ _ h
   ·rename_i hne
    cases r with
    | mk e s1=>
     rw [ih _ _ _ _ h]
     cases e with
     | normal=>exact (hne _ h).elim
     | _=>rfl
  | u5 ops=>
   rw [bG] at h;rw [ak];split at h
   case h_2=>simp at h
   rename_i h1;rw [fX (wK ht ih) (fL E.fns ih) ops h1];exact h
  | draw ops=>
   rw [bG] at h;rw [ak];split at h
   case h_2=>simp at h
   rename_i h1;rw [fX (d:=fun _ _ _=>none) (wK ht ih) (fun _ _ _ _ h=>h) ops h1];exact h
  | jG ops bf=>
   rw [bG] at h;rw [ak];split at h
   case h_2=>simp at h
   rename_i h1;rw [nV (wK ht ih) (fL E.fns ih) bf ops h1];exact h
  | kB ops k ps=>
   rw [bG] at h;rw [ak];split at h
   case h_2=>simp at h
   rename_i h1;rw [si (wK ht ih) ops h1];exact h
  | gh pre r0 post=>
   rw [bG] at h;rw [ak];split at h
   case h_2=>simp at h
   rename_i s0 h0;try simp only [h0]
   split at h
   ·rename_i s1 h1;rw [ih _ _ _ _ h1];exact h
   ·rename_i hne
    cases r with
    | mk e s1=>
     rw [ih _ _ _ _ h]
     cases e with
     | normal=>exact (hne _ h).elim
     | _=>rfl
  | AT g ps b6 body=>
   rw [bG] at h;rw [ak];split at h
   case h_2=>simp at h
   rename_i f cap hx
   (try simp only [hx])
   split at h
   case h_2=>simp at h
   rename_i u H' h1;rw [fL E.fns ih _ _ _ _ h1];exact h
theorem jz.nil {E:Env} {hp:Nat->Bool}:jz E hp [] 0:=fun _ _ _ h=>by simp at h
theorem jz.cons {E:Env} {hp:Nat->Bool} {eg:List (Nat×List AV×AV)} {N n f:Nat} {xs:List AV} {r:AV} (ht:jz E hp eg N)
 (h:Hw eg E.fns (bG E hp eg n) f xs=some r):jz E hp ((f,xs,r)::eg) (n+N):=by
 intro g ys q hm;rcases zad.1 hm with e | e
 ·injection e with e1 e2
  injection e2 with e2 e3
  subst e1;subst e2;subst e3;exact wK ht (Ec ht n) _ _ _ h
 ·exact dW E.fns (bN (show N<=n+N by omega)) _ _ _ (ht _ _ _ e)
theorem jz.pt {E:Env} {hp:Nat->Bool} {eg:List (Nat×List AV×AV)} {N f:Nat} {xs:List AV} {r:AV} (ht:jz E hp eg N) (h:look eg f xs=some r):∃ n,kh E.fns (ak E hp n) f xs=some r:=
 ⟨N,ht _ _ _ (tP h)⟩
end Go.Am.As
