/- The machine with a table of known calls. -/
import Derived.Test.YtafgdbaekppjcaaGreatDoorAmWp
set_option linter.unusedSectionVars false
set_option linter.unusedVariables false
set_option linter.unusedSimpArgs false
namespace Go.Am.As
def look:List (Nat×List AV×AV)→Nat→List AV→Option AV
 | [],_,_=>none
 | (g,ys,r)::l,f,xs=>if (Nat.beq g f&&AV.sames ys xs)=true then some r else look l f xs
theorem look_some:∀ {tab:List (Nat×List AV×AV)} {f:Nat} {xs:List AV} {r:AV},look tab f xs=some r→(f,xs,r)∈tab
 | [],f,xs,r,h=>by simp [look] at h
 | (g,ys,q)::l,f,xs,r,h=>by
  simp only [look] at h
  split at h
  ·rename_i hc
   simp only [Bool.and_eq_true] at hc
   injection h with h
   rw [Nat.eq_of_beq_eq_true hc.1,AV.sames_eq hc.2,h]
   exact List.mem_cons_self
  ·exact List.mem_cons_of_mem _ (look_some h)
def cIK (tab:List (Nat×List AV×AV)) (fns:Nat→Option RF) (ex:EXT):CI:=fun f args=>match look tab f args with
 | some r=>some r
 | none=>cIT fns ex f args
def TabOk (E:Env) (hp:Nat→Bool) (tab:List (Nat×List AV×AV)) (N:Nat):Prop:=∀ f xs r,(f,xs,r)∈tab→cIT E.fns (execT E hp N) f xs=some r
def execK (E:Env) (hp:Nat→Bool) (tab:List (Nat×List AV×AV)):Nat→EXT
 | 0,_,_,_=>none
 | n+1,c,base,s=>
  match c with
  | .bad=>none
  | .skip=>some (.normal,s)
  | .ret=>some (.ret,s)
  | .exit id=>some (.exit id,s)
  | .seq a b=>(match execK E hp tab n a base s with
   | some (.normal,s')=>execK E hp tab n b base s'
   | r=>r)
  | .cond x a b=>(match evT E.glob s.tmps x with
   | .bool true=>execK E hp tab n a base s
   | .bool false=>execK E hp tab n b base s
   | _=>none)
  | .block id b=>(match execK E hp tab n b base s with
   | some (.exit i,s')=>if i=id then some (.normal,s') else some (.exit i,s')
   | r=>r)
  | .loop b=>(match execK E hp tab n b base s with
   | some (.normal,s')=>execK E hp tab n (.loop b) base s'
   | r=>r)
  | .reg ops=>(match runOpsT E.glob hp (cIK tab E.fns (execK E hp tab n)) (cHT E.fns (execK E hp tab n)) ops s.tmps s.H with
   | some (t,H)=>some (.normal,⟨t,H⟩)
   | none=>none)
  | .draw ops=>(match runOpsT E.glob (fun _=>false) (cIK tab E.fns (execK E hp tab n)) (fun _ _ _=>none) ops s.tmps s.H with
   | some (t,H)=>some (.normal,⟨t,H⟩)
   | none=>none)
  | .drawX ops bf=>(match runXT E.glob hp (cIK tab E.fns (execK E hp tab n)) (cHT E.fns (execK E hp tab n)) bf ops 0 [] [] s.tmps s.H with
   | some (t,H)=>some (.normal,⟨t,H⟩)
   | none=>none)
  | .drawW ops k ps=>(match runDT E.glob (cIK tab E.fns (execK E hp tab n)) s.H.length ops s.tmps (s.H++List.replicate k .rsv) with
   | some (t,H,fs)=>if pairsDisj fs ps=true then some (.normal,⟨t,H⟩) else none
   | none=>none)
  | .gh pre r post=>(match ghostsT base pre s with
   | some s0=>(match execK E hp tab n r base s0 with
    | some (.normal,s')=>(match ghostsT base post s' with | some s''=>some (.normal,s'') | none=>none)
    | r=>r)
   | none=>none)
  | .rfn g ps asg body=>(match evT E.glob s.tmps g with
   | .fn f cap=>(match cHT E.fns (execK E hp tab n) (some f) (.yld s.H.length::cap) (s.H++[.lp .ready s.tmps.toL ps asg body]) with
    | some (_,H')=>(match lpEnd H' s.H.length with
     | some e=>some (e,⟨s.tmps,H'.set s.H.length .dead⟩)
     | none=>none)
    | none=>none)
   | _=>none)
theorem cIK_le {E:Env} {hp:Nat→Bool} {tab:List (Nat×List AV×AV)} {N:Nat} (ht:TabOk E hp tab N) {n:Nat} {a:EXT} (h:a.le (execT E hp (n+N))):(cIK tab E.fns a).le (cIT E.fns (execT E hp (n+N))):=by
 intro f xs r hr
 unfold cIK at hr
 split at hr
 ·rename_i q hl
  injection hr with hr;subst hr
  exact cIT_mono E.fns (execT_mono (show N≤n+N by omega)) _ _ _ (ht _ _ _ (look_some hl))
 ·exact cIT_mono E.fns h _ _ _ hr
theorem execK_le {E:Env} {hp:Nat→Bool} {tab:List (Nat×List AV×AV)} {N:Nat} (ht:TabOk E hp tab N):∀ n,EXT.le (execK E hp tab n) (execT E hp (n+N))
 | 0=>by intro c k s r h;simp [execK] at h
 | n+1=>by
  have ih:=execK_le ht n
  intro c k s r h
  rw [show n+1+N=(n+N)+1 by omega]
  cases c with
  | bad=>simp [execK] at h
  | skip=>rw [execK] at h;rw [execT];exact h
  | ret=>rw [execK] at h;rw [execT];exact h
  | exit i=>rw [execK] at h;rw [execT];exact h
  | seq a b=>
   rw [execK] at h;rw [execT]
   split at h
   ·rename_i s1 h1;rw [ih _ _ _ _ h1];exact ih _ _ _ _ h
   ·rename_i hne
    cases r with
    | mk e s1=>
     rw [ih _ _ _ _ h]
     cases e with
     | normal=>exact (hne _ h).elim
     | _=>rfl
  | cond x a b=>
   rw [execK] at h;rw [execT]
   split at h
   ·rename_i hx;(try simp only [hx]);exact ih _ _ _ _ h
   ·rename_i hx;(try simp only [hx]);exact ih _ _ _ _ h
   ·simp at h
  | block i b=>
   rw [execK] at h;rw [execT]
   split at h
   ·rename_i j s1 h1;rw [ih _ _ _ _ h1];exact h
   ·rename_i hne
    cases r with
    | mk e s1=>
     rw [ih _ _ _ _ h]
     cases e with
     | exit j=>exact (hne _ _ h).elim
     | _=>rfl
  | loop b=>
   rw [execK] at h;rw [execT]
   split at h
   ·rename_i s1 h1;rw [ih _ _ _ _ h1];exact ih _ _ _ _ h
   ·rename_i hne
    cases r with
    | mk e s1=>
     rw [ih _ _ _ _ h]
     cases e with
     | normal=>exact (hne _ h).elim
     | _=>rfl
  | reg ops=>
   rw [execK] at h;rw [execT]
   split at h
   case h_2=>simp at h
   rename_i h1
   rw [runOpsT_le (cIK_le ht ih) (cHT_mono E.fns ih) ops h1];exact h
  | draw ops=>
   rw [execK] at h;rw [execT]
   split at h
   case h_2=>simp at h
   rename_i h1
   rw [runOpsT_le (d:=fun _ _ _=>none) (cIK_le ht ih) (fun _ _ _ _ h=>h) ops h1];exact h
  | drawX ops bf=>
   rw [execK] at h;rw [execT]
   split at h
   case h_2=>simp at h
   rename_i h1
   rw [runXT_le (cIK_le ht ih) (cHT_mono E.fns ih) bf ops h1];exact h
  | drawW ops k ps=>
   rw [execK] at h;rw [execT]
   split at h
   case h_2=>simp at h
   rename_i h1
   rw [runDT_le (cIK_le ht ih) ops h1];exact h
  | gh pre r0 post=>
   rw [execK] at h;rw [execT]
   split at h
   case h_2=>simp at h
   rename_i s0 h0
   try simp only [h0]
   split at h
   ·rename_i s1 h1;rw [ih _ _ _ _ h1];exact h
   ·rename_i hne
    cases r with
    | mk e s1=>
     rw [ih _ _ _ _ h]
     cases e with
     | normal=>exact (hne _ h).elim
     | _=>rfl
  | rfn g ps asg body=>
   rw [execK] at h;rw [execT]
   split at h
   case h_2=>simp at h
   rename_i f cap hx
   (try simp only [hx])
   split at h
   case h_2=>simp at h
   rename_i u H' h1
   rw [cHT_mono E.fns ih _ _ _ _ h1];exact h
theorem TabOk.nil {E:Env} {hp:Nat→Bool}:TabOk E hp [] 0:=fun _ _ _ h=>by simp at h
theorem TabOk.cons {E:Env} {hp:Nat→Bool} {tab:List (Nat×List AV×AV)} {N n f:Nat} {xs:List AV} {r:AV} (ht:TabOk E hp tab N)
 (h:cIK tab E.fns (execK E hp tab n) f xs=some r):TabOk E hp ((f,xs,r)::tab) (n+N):=by
 intro g ys q hm
 rcases List.mem_cons.1 hm with e | e
 ·injection e with e1 e2
  injection e2 with e2 e3
  subst e1;subst e2;subst e3
  exact cIK_le ht (execK_le ht n) _ _ _ h
 ·exact cIT_mono E.fns (execT_mono (show N≤n+N by omega)) _ _ _ (ht _ _ _ e)
theorem TabOk.pt {E:Env} {hp:Nat→Bool} {tab:List (Nat×List AV×AV)} {N f:Nat} {xs:List AV} {r:AV} (ht:TabOk E hp tab N) (h:look tab f xs=some r):∃ n,cIT E.fns (execT E hp n) f xs=some r:=
 ⟨N,ht _ _ _ (look_some h)⟩
end Go.Am.As
