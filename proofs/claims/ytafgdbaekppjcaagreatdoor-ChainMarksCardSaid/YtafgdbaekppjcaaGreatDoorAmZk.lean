/- The machine with a table of known calls. -/
import Derived.Test.YtafgdbaekppjcaaGreatDoorAmWp
set_option linter.unusedSectionVars false
set_option linter.unusedVariables false
set_option linter.unusedSimpArgs false
namespace Go.Am.As
def look:List (Nat×List AV×AV)->Nat->List AV->Option AV
 | [],_,_=>none
 | (g,ys,r)::l,f,xs=>if (Nat.beq g f&&AV.gW ys xs)=true then some r else look l f xs
theorem rU:∀ {dO:List (Nat×List AV×AV)} {f:Nat} {xs:List AV} {r:AV},look dO f xs=some r->(f,xs,r)∈dO
 | [],f,xs,r,h=>by simp [look] at h
 | (g,ys,q)::l,f,xs,r,h=>by
  simp only [look] at h;split at h
  ·rename_i hc;simp only [Bool.and_eq_true] at hc;injection h with h
   rw [Nat.eq_of_beq_eq_true hc.1,AV.gq hc.2,h];exact List.mem_cons_self
  ·exact List.mem_cons_of_mem _ (rU h)
def D5 (dO:List (Nat×List AV×AV)) (fns:Nat->Option RF) (ex:o7):CI:=fun f args=>match look dO f args with
 | some r=>some r
 | none=>jw fns ex f args
def iS (E:Env) (hp:Nat->Bool) (dO:List (Nat×List AV×AV)) (N:Nat):Prop:=∀ f xs r,(f,xs,r)∈dO->jw E.fns (aq E hp N) f xs=some r
def bC (E:Env) (hp:Nat->Bool) (dO:List (Nat×List AV×AV)):Nat->o7
 | 0,_,_,_=>none
 | n+1,c,base,s=>
  match c with
  | .bad=>none
  | .skip=>some (.normal,s)
  | .ret=>some (.ret,s)
  | .exit id=>some (.exit id,s)
  | .seq a b=>(match bC E hp dO n a base s with
   | some (.normal,s')=>bC E hp dO n b base s'
   | r=>r)
  | .cond x a b=>(match fI E.aI s.tmps x with
   | .bool true=>bC E hp dO n a base s
   | .bool false=>bC E hp dO n b base s
   | _=>none)
  | .block id b=>(match bC E hp dO n b base s with
   | some (.exit i,s')=>if i=id then some (.normal,s') else some (.exit i,s')
   | r=>r)
  | .loop b=>(match bC E hp dO n b base s with
   | some (.normal,s')=>bC E hp dO n (.loop b) base s'
   | r=>r)
  | .sZ ops=>(match aZ E.aI hp (D5 dO E.fns (bC E hp dO n)) (jE E.fns (bC E hp dO n)) ops s.tmps s.H with
   | some (t,H)=>some (.normal,⟨t,H⟩)
   | none=>none)
  | .draw ops=>(match aZ E.aI (fun _=>false) (D5 dO E.fns (bC E hp dO n)) (fun _ _ _=>none) ops s.tmps s.H with
   | some (t,H)=>some (.normal,⟨t,H⟩)
   | none=>none)
  | .iY ops bf=>(match gC E.aI hp (D5 dO E.fns (bC E hp dO n)) (jE E.fns (bC E hp dO n)) bf ops 0 [] [] s.tmps s.H with
   | some (t,H)=>some (.normal,⟨t,H⟩)
   | none=>none)
  | .jI ops k ps=>(match fW E.aI (D5 dO E.fns (bC E hp dO n)) s.H.length ops s.tmps (s.H++List.replicate k .gB) with
   | some (t,H,fs)=>if fN fs ps=true then some (.normal,⟨t,H⟩) else none
   | none=>none)
  | .gh pre r post=>(match cD base pre s with
   | some s0=>(match bC E hp dO n r base s0 with
    | some (.normal,s')=>(match cD base post s' with | some s''=>some (.normal,s'') | none=>none)
    | r=>r)
   | none=>none)
  | .yB g ps b9 body=>(match fI E.aI s.tmps g with
   | .fn f cap=>(match jE E.fns (bC E hp dO n) (some f) (.eI s.H.length::cap) (s.H++[.lp .ready s.tmps.toL ps b9 body]) with
    | some (_,H')=>(match ke H' s.H.length with
     | some e=>some (e,⟨s.tmps,H'.set s.H.length .dead⟩)
     | none=>none)
    | none=>none)
   | _=>none)
theorem uy {E:Env} {hp:Nat->Bool} {dO:List (Nat×List AV×AV)} {N:Nat} (ht:iS E hp dO N) {n:Nat} {a:o7} (h:a.le (aq E hp (n+N))):(D5 dO E.fns a).le (jw E.fns (aq E hp (n+N))):=by
 intro f xs r hr;unfold D5 at hr;split at hr
 ·rename_i q hl;injection hr with hr;subst hr
  exact dI E.fns (bK (show N<=n+N by omega)) _ _ _ (ht _ _ _ (rU hl))
 ·exact dI E.fns h _ _ _ hr
theorem Bz {E:Env} {hp:Nat->Bool} {dO:List (Nat×List AV×AV)} {N:Nat} (ht:iS E hp dO N):∀ n,o7.le (bC E hp dO n) (aq E hp (n+N))
 | 0=>by intro c k s r h;simp [bC] at h
 | n+1=>by
  have ih:=Bz ht n;intro c k s r h;rw [show n+1+N=(n+N)+1 by omega]
  cases c with
  | bad=>simp [bC] at h
  | skip=>rw [bC] at h;rw [aq];exact h
  | ret=>rw [bC] at h;rw [aq];exact h
  | exit i=>rw [bC] at h;rw [aq];exact h
  | seq a b=>
   rw [bC] at h;rw [aq];split at h
   ·rename_i s1 h1;rw [ih _ _ _ _ h1];exact ih _ _ _ _ h
   ·rename_i hne
    cases r with
    | mk e s1=>
     rw [ih _ _ _ _ h]
     cases e with
     | normal=>exact (hne _ h).elim
     | _=>rfl
  | cond x a b=>
   rw [bC] at h;rw [aq];split at h
   ·rename_i hx;(try simp only [hx]);exact ih _ _ _ _ h
   ·rename_i hx;(try simp only [hx]);exact ih _ _ _ _ h
   ·simp at h
  | block i b=>
   rw [bC] at h;rw [aq];split at h
   ·rename_i j s1 h1;rw [ih _ _ _ _ h1];exact h
   ·rename_i hne
    cases r with
    | mk e s1=>
     rw [ih _ _ _ _ h]
     cases e with
     | exit j=>exact (hne _ _ h).elim
     | _=>rfl
  | loop b=>
   rw [bC] at h;rw [aq];split at h
   ·rename_i s1 h1;rw [ih _ _ _ _ h1];exact ih _ _ _ _ h
   ·rename_i hne
    cases r with
    | mk e s1=>
     rw [ih _ _ _ _ h]
     cases e with
     | normal=>exact (hne _ h).elim
     | _=>rfl
  | sZ ops=>
   rw [bC] at h;rw [aq];split at h
   case h_2=>simp at h
   rename_i h1;rw [fF (uy ht ih) (fk E.fns ih) ops h1];exact h
  | draw ops=>
   rw [bC] at h;rw [aq];split at h
   case h_2=>simp at h
   rename_i h1;rw [fF (d:=fun _ _ _=>none) (uy ht ih) (fun _ _ _ _ h=>h) ops h1];exact h
  | iY ops bf=>
   rw [bC] at h;rw [aq];split at h
   case h_2=>simp at h
   rename_i h1;rw [mP (uy ht ih) (fk E.fns ih) bf ops h1];exact h
  | jI ops k ps=>
   rw [bC] at h;rw [aq];split at h
   case h_2=>simp at h
   rename_i h1;rw [qq (uy ht ih) ops h1];exact h
  | gh pre r0 post=>
   rw [bC] at h;rw [aq];split at h
   case h_2=>simp at h
   rename_i s0 h0;try simp only [h0]
   split at h
   ·rename_i s1 h1;rw [ih _ _ _ _ h1];exact h
   ·rename_i hne
    cases r with
    | mk e s1=>
     rw [ih _ _ _ _ h]
     cases e with
     | normal=>exact (hne _ h).elim
     | _=>rfl
  | yB g ps b9 body=>
   rw [bC] at h;rw [aq];split at h
   case h_2=>simp at h
   rename_i f cap hx
   (try simp only [hx])
   split at h
   case h_2=>simp at h
   rename_i u H' h1;rw [fk E.fns ih _ _ _ _ h1];exact h
theorem iS.nil {E:Env} {hp:Nat->Bool}:iS E hp [] 0:=fun _ _ _ h=>by simp at h
theorem iS.cons {E:Env} {hp:Nat->Bool} {dO:List (Nat×List AV×AV)} {N n f:Nat} {xs:List AV} {r:AV} (ht:iS E hp dO N)
 (h:D5 dO E.fns (bC E hp dO n) f xs=some r):iS E hp ((f,xs,r)::dO) (n+N):=by
 intro g ys q hm;rcases List.mem_cons.1 hm with e | e
 ·injection e with e1 e2
  injection e2 with e2 e3
  subst e1;subst e2;subst e3;exact uy ht (Bz ht n) _ _ _ h
 ·exact dI E.fns (bK (show N<=n+N by omega)) _ _ _ (ht _ _ _ e)
theorem iS.pt {E:Env} {hp:Nat->Bool} {dO:List (Nat×List AV×AV)} {N f:Nat} {xs:List AV} {r:AV} (ht:iS E hp dO N) (h:look dO f xs=some r):∃ n,jw E.fns (aq E hp n) f xs=some r:=
 ⟨N,ht _ _ _ (rU h)⟩
end Go.Am.As
