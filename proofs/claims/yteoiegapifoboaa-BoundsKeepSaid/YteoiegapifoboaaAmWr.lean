/- Rules by which a function's code is shown to compute its model. No condition. -/
import Derived.Test.YteoiegapifoboaaAmWp
import Derived.Test.YteoiegapifoboaaAmP0
import Derived.KernelRfl
namespace Go.Am
abbrev AV.i (n : Int) : AV := .int .i64 n
abbrev AV.po (id o : Nat) : AV := .pown id 1 0 o
abbrev Obj.lv (n : Nat) (cs : List AV) : Obj := .live .norm n [cs]
end Go.Am
namespace Go.Am.As
open Go.Pl

def W (E : Env) (hp : Nat → Bool) (c : RC) (b : Nat) (N : ST → Prop) (X : Nat → ST → Prop) (R : ST → Prop) (s : ST) : Prop :=
  WP E hp c b (fun e s' => match e with | .normal => N s' | .exit i => X i s' | .ret => R s') s

section
variable {E : Env} {hp : Nat → Bool} {b : Nat} {N : ST → Prop} {X : Nat → ST → Prop} {R : ST → Prop} {s : ST}

theorem W.mono {c : RC} {N' X' R'} (h : W E hp c b N X R s) (hn : ∀ s, N s → N' s) (hx : ∀ i s, X i s → X' i s) (hr : ∀ s, R s → R' s) : W E hp c b N' X' R' s :=
  WP.mono h fun e s' q => by cases e with | normal => exact hn _ q | exit i => exact hx _ _ q | ret => exact hr _ q

theorem W_skip (h : N s) : W E hp .skip b N X R s := WP_skip.2 h
theorem W_ret (h : R s) : W E hp .ret b N X R s := WP_ret.2 h
theorem W_exit {i : Nat} (h : X i s) : W E hp (.exit i) b N X R s := WP_exit.2 h
theorem W_seq {x y : RC} (h : W E hp x b (fun s' => W E hp y b N X R s') X R s) : W E hp (.seq x y) b N X R s :=
  WP_seq.2 (WP.mono h fun e s' q => by cases e <;> exact q)
theorem W_block {i : Nat} {p : RC} (h : W E hp p b N (fun j s' => if j = i then N s' else X j s') R s) : W E hp (.block i p) b N X R s :=
  WP_block.2 (WP.mono h fun e s' q => by
    cases e with
    | exit j => dsimp only at q ⊢; split <;> simp_all
    | _ => exact q)
theorem X_hit {i : Nat} {A B : Prop} (h : A) : if i = i then A else B := by simp [h]
theorem X_miss {i j : Nat} {A B : Prop} (hne : j ≠ i) (h : B) : if j = i then A else B := by simp [hne, h]

/-- what ghost steps lead to -/
def Gh (b : Nat) (gs : List GA) (s : ST) (N : ST → Prop) : Prop := ∃ s', ghostsT b gs s = some s' ∧ N s'

theorem W_gh {post : List GA} {p : RC} (h : W E hp p b (fun s' => Gh b post s' N) X R s) : W E hp (.gh [] p post) b N X R s := by
  refine WP_gh.2 ?_
  simp only [ghostsT]
  refine WP.mono h fun e s' q => ?_
  cases e with
  | normal => obtain ⟨s'', e1, e2⟩ := q; simp only [e1]; exact e2
  | _ => exact q

theorem W_pre {pre post : List GA} {p : RC} (h : Gh b pre s (fun s' => W E hp (.gh [] p post) b N X R s')) : W E hp (.gh pre p post) b N X R s := by
  obtain ⟨s1, e1, h⟩ := h
  refine WP_gh.2 ?_
  rw [e1]
  have h' := WP_gh.1 h
  simpa only [ghostsT] using h'

theorem W_ungh {p : RC} (h : W E hp (.gh [] p []) b N X R s) : W E hp p b N X R s := by
  have h' := WP_gh.1 h
  simp only [ghostsT] at h'
  exact WP.mono h' fun e s' q => by cases e <;> exact q

theorem Gh_end {s1 : ST} (gs : List GA) (h : ghostsT b gs s = some s1) (k : N s1) : Gh b gs s N := ⟨s1, h, k⟩
theorem Gh_e {gs : List GA} (s1 : ST) (k : N s1) (h : ghostsT b gs s = some s1 := by kernel_rfl) : Gh b gs s N := ⟨s1, h, k⟩
theorem Gh_endn {s1 s2 : ST} (gs : List GA) (h : ghostsT b gs s = some s1) (e : s1 = s2) (k : N s2) : Gh b gs s N := by subst e; exact ⟨s1, h, k⟩
theorem Gh_nil (k : N s) : Gh b [] s N := ⟨s, rfl, k⟩
theorem Gh_one {g : GA} {gs : List GA} {s1 : ST} (h : ghost1T b s g = some s1) (k : Gh b gs s1 N) : Gh b (g :: gs) s N := by
  obtain ⟨s2, e1, e2⟩ := k
  exact ⟨s2, by rw [ghostsT, h]; exact e1, e2⟩
theorem Gh_at {gs : List GA} {s1 : ST} (e : s = s1) (k : Gh b gs s1 N) : Gh b gs s N := by subst e; exact k
/-- objects from n on are forgotten -/
theorem Gh_trunc {n : Nat} {gs : List GA} {s1 : ST} {H1 : List Obj} (h1 : Nat.blt (b + n) s.H.length = true) (h2 : T.belsL (b + n) s.tmps.l = true) (eH : s.H.take (b + n) = H1) (h3 : objsBel (b + n) H1 = true)
    (e : (⟨s.tmps, H1⟩ : ST) = s1) (k : Gh b gs s1 N) : Gh b (.trunc n :: gs) s N := by
  refine Gh_one (s1 := s1) ?_ k
  simp only [ghost1T, h1, eH, T.bels, h2, h3, Bool.and_self, if_true, e]
theorem tb_free {n k : Nat} {v : AV} {r : List (Nat × AV)} (h1 : v.bel 0 = true) (h2 : T.belsL n r = true) : T.belsL n ((k, v) :: r) = true := by
  simp only [T.belsL, Bool.and_eq_true]; exact ⟨bel_mono (Nat.zero_le _) _ h1, h2⟩
theorem tb_ref {n k : Nat} {v : AV} {r : List (Nat × AV)} (h1 : v.bel n = true) (h2 : T.belsL n r = true) : T.belsL n ((k, v) :: r) = true := by
  simp only [T.belsL, Bool.and_eq_true]; exact ⟨h1, h2⟩
theorem ob_dead {n : Nat} {o : List Obj} (h : objsBel n o = true) : objsBel n (.dead :: o) = true := by simp [objsBel, Obj.bel, h]
theorem ob_box {n sz : Nat} {nl : Fl} {cs : List AV} {o : List Obj} (h1 : AV.bels 0 cs = true) (h : objsBel n o = true) : objsBel n (.live nl sz [cs] :: o) = true := by
  simp [objsBel, Obj.bel, AV.belss, h, bels_mono (Nat.zero_le n) _ h1]
theorem bn_free {n : Nat} {x : AV} {xs : List AV} (h1 : x.bel 0 = true) (h2 : AV.bels n xs = true) : AV.bels n (x :: xs) = true := by
  simp only [AV.bels, Bool.and_eq_true]; exact ⟨bel_mono (Nat.zero_le _) _ h1, h2⟩
theorem bn_ref {n : Nat} {x : AV} {xs : List AV} (h1 : x.bel n = true) (h2 : AV.bels n xs = true) : AV.bels n (x :: xs) = true := by
  simp only [AV.bels, Bool.and_eq_true]; exact ⟨h1, h2⟩
theorem ob_boxn {n sz : Nat} {nl : Fl} {cs : List AV} {o : List Obj} (h1 : AV.bels n cs = true) (h : objsBel n o = true) : objsBel n (.live nl sz [cs] :: o) = true := by
  simp [objsBel, Obj.bel, AV.belss, h, h1]
theorem belss_mapn {α : Type} {C : α → List AV} (h : ∀ x, AV.bels 0 (C x) = true) (n : Nat) : ∀ l : List α, AV.belss n (l.map C) = true
  | [] => rfl
  | x :: l => by simp [AV.belss, bels_mono (Nat.zero_le n) _ (h x), belss_mapn h n l]
theorem ob_list {α : Type} {C : α → List AV} {n sz : Nat} {nl : Fl} {l : List α} {o : List Obj} (h1 : ∀ x, AV.bels 0 (C x) = true) (h : objsBel n o = true) : objsBel n (.live nl sz (l.map C) :: o) = true := by
  simp [objsBel, Obj.bel, h, belss_mapn h1]
theorem Gh_trunc0 {n : Nat} {gs : List GA} (h1 : Nat.blt (b + n) s.H.length = false) (k : Gh b gs s N) : Gh b (.trunc n :: gs) s N := by
  refine Gh_one (s1 := s) ?_ k
  simp [ghost1T, h1]

theorem W_reg {os : List ROp} (h : WO E hp false os s.tmps s.H (fun t H => N ⟨t, H⟩)) : W E hp (.reg os) b N X R s := WP_reg.2 h
theorem W_draw {os : List ROp} (h : WO E hp true os s.tmps s.H (fun t H => N ⟨t, H⟩)) : W E hp (.draw os) b N X R s := WP_draw.2 h

/-- to a state, and on from there -/
theorem W_cut {c : RC} (s1 : ST) (h : W E hp c b (fun s' => s' = s1) X R s) (k : N s1) : W E hp c b N X R s :=
  h.mono (fun s' e => by subst e; exact k) (fun _ _ h => h) (fun _ h => h)

theorem W_cond {x : RX} {p q : RC} {c : Bool} (hx : evT E.glob s.tmps x = .bool c) (ht : c = true → W E hp p b N X R s) (hf : c = false → W E hp q b N X R s) : W E hp (.cond x p q) b N X R s := by
  refine WP_cond.2 ?_
  rw [hx]
  cases c with
  | true => exact ht rfl
  | false => exact hf rfl

/-- a test, with a model that tests alike -/
theorem W_if {ρ : Type} {x : RX} {p q : RC} {c : Bool} {A B : Option ρ} {r : ρ} (h : (bif c then A else B) = some r) (hx : evT E.glob s.tmps x = .bool c)
    (ht : c = true → A = some r → W E hp p b N X R s) (hf : c = false → B = some r → W E hp q b N X R s) : W E hp (.cond x p q) b N X R s :=
  W_cond hx (fun e => ht e (by rw [e] at h; exact h)) (fun e => hf e (by rw [e] at h; exact h))

theorem fork_t {ρ : Type} {c : Bool} {A B : Option ρ} {r : ρ} (hc : c = true) (h : (bif c then A else B) = some r) : A = some r := by rw [hc] at h; exact h
theorem fork_f {ρ : Type} {c : Bool} {A B : Option ρ} {r : ρ} (hc : c = false) (h : (bif c then A else B) = some r) : B = some r := by rw [hc] at h; exact h
theorem bif_ok {ρ : Type} {c : Bool} {A B : Option ρ} {r : ρ} {G : Prop} (h : (bif c then A else B) = some r) (ht : c = true → A = some r → G) (hf : c = false → B = some r → G) : G := by
  cases c with
  | true => exact ht rfl h
  | false => exact hf rfl h

/-- ways that meet again: the model's part gives what differs -/
theorem W_join {α β : Type} {c : RC} {m : Option (α ⊕ β)} {F : α → Option β} {r : β} (M : α → ST) (h : m.bind (Sum.elim F some) = some r)
    (h1 : ∀ w, m = some w → Sum.elim F some w = some r → W E hp c b (fun s' => ∃ v, w = .inl v ∧ s' = M v) X R s)
    (h2 : ∀ v, F v = some r → N (M v)) : W E hp c b N X R s := by
  obtain ⟨w, e1, e2⟩ := bind_some h
  refine (h1 w e1 e2).mono ?_ (fun _ _ h => h) (fun _ h => h)
  rintro s' ⟨v, rfl, rfl⟩
  exact h2 v e2

theorem W_joinS {α β : Type} {c : RC} {m : Option α} {f : α → Option β} {r : β} (M : α → ST) (h : m.bind f = some r)
    (h1 : ∀ w, m = some w → W E hp c b (fun s' => s' = M w) X R s)
    (h2 : ∀ v, m = some v → f v = some r → N (M v)) : W E hp c b N X R s := by
  obtain ⟨w, e1, e2⟩ := bind_some h
  exact W_cut (M w) (h1 w e1) (h2 w e1 e2)

/-- a loop, with a model that loops alike: 'brk' behind the loop, 'out' on any way that leaves it elsewhere -/
theorem W_loop {σ β ρ : Type} {p : RC} {i : Nat} {post : List GA} {body : σ → Option (σ ⊕ (β ⊕ ρ))} {s0 : σ} {F : β → Option ρ} {r : ρ} (en : σ → ST) (eb : β → ST) (h : (iter body s0).bind (Sum.elim F some) = some r)
    (h0 : s = en s0)
    (step : ∀ v c, body v = some c → W E hp p b (fun s' => ∃ v', c = .inl v' ∧ s' = en v')
      (fun j s' => if j = i then Gh b post s' (fun s' => ∃ w, c = .inr (.inl w) ∧ s' = eb w) else ∃ o, c = .inr (.inr o) ∧ (some o = some r → X j s'))
      (fun s' => ∃ o, c = .inr (.inr o) ∧ (some o = some r → R s')) (en v))
    (next : ∀ w, F w = some r → N (eb w)) : W E hp (.gh [] (.block i (.loop p)) post) b N X R s := by
  have hf : ∀ o, Sum.elim F some (.inr o) = some o := fun _ => rfl
  obtain ⟨w, hw, hfw⟩ := bind_some h
  subst h0
  refine W_gh (W_block ?_)
  have key : ∀ n v, iterN body n v = some w → W E hp (.loop p) b (fun s' => Gh b post s' N) (fun j s' => if j = i then Gh b post s' N else X j s') R (en v) := by
    intro n
    induction n with
    | zero => intro v h; simp [iterN] at h
    | succ n ih =>
      intro v hv
      rw [iterN] at hv
      cases hb : body v with
      | none => rw [hb] at hv; simp at hv
      | some c =>
        obtain ⟨k, e, s1, h1, hq⟩ := step v c hb
        rw [hb] at hv
        cases e with
        | normal =>
          obtain ⟨v', rfl, rfl⟩ := hq
          obtain ⟨k2, e2, s2, h2, hq2⟩ := ih v' hv
          refine ⟨max k k2 + 1, e2, s2, ?_, hq2⟩
          rw [execT, execT_mono (Nat.le_max_left k k2) _ _ _ _ h1]
          exact execT_mono (Nat.le_max_right k k2) _ _ _ _ h2
        | exit j =>
          refine ⟨k + 1, _, _, by rw [execT, h1], ?_⟩
          dsimp only at hq ⊢
          by_cases hj : j = i
          · rw [if_pos hj] at hq ⊢
            obtain ⟨s2, g1, u, rfl, rfl⟩ := hq
            simp only [Option.some.injEq] at hv
            subst hv
            exact ⟨_, g1, next u hfw⟩
          · rw [if_neg hj] at hq ⊢
            obtain ⟨o, rfl, hx⟩ := hq
            simp only [Option.some.injEq] at hv
            subst hv
            rw [hf] at hfw
            exact hx hfw
        | ret =>
          refine ⟨k + 1, _, _, by rw [execT, h1], ?_⟩
          dsimp only at hq ⊢
          obtain ⟨o, rfl, hx⟩ := hq
          simp only [Option.some.injEq] at hv
          subst hv
          rw [hf] at hfw
          exact hx hfw
  exact key fuel s0 hw

/-- a loop that is left behind itself alone -/
theorem W_loopS {σ β ρ : Type} {p : RC} {i : Nat} {post : List GA} {body : σ → Option (σ ⊕ β)} {s0 : σ} {f : β → Option ρ} {r : ρ} (en : σ → ST) (eb : β → ST) (h : (iter body s0).bind f = some r)
    (h0 : s = en s0)
    (step : ∀ v c, body v = some c → W E hp p b (fun s' => ∃ v', c = .inl v' ∧ s' = en v')
      (fun j s' => if j = i then Gh b post s' (fun s' => ∃ w, c = .inr w ∧ s' = eb w) else False)
      (fun _ => False) (en v))
    (next : ∀ w, iter body s0 = some w → f w = some r → N (eb w)) : W E hp (.gh [] (.block i (.loop p)) post) b N X R s := by
  obtain ⟨w, hw, hfw⟩ := bind_some h
  subst h0
  refine W_gh (W_block ?_)
  have key : ∀ n v, iterN body n v = some w → W E hp (.loop p) b (fun s' => Gh b post s' N) (fun j s' => if j = i then Gh b post s' N else X j s') R (en v) := by
    intro n
    induction n with
    | zero => intro v h; simp [iterN] at h
    | succ n ih =>
      intro v hv
      rw [iterN] at hv
      cases hb : body v with
      | none => rw [hb] at hv; simp at hv
      | some c =>
        obtain ⟨k, e, s1, h1, hq⟩ := step v c hb
        rw [hb] at hv
        cases e with
        | normal =>
          obtain ⟨v', rfl, rfl⟩ := hq
          obtain ⟨k2, e2, s2, h2, hq2⟩ := ih v' hv
          refine ⟨max k k2 + 1, e2, s2, ?_, hq2⟩
          rw [execT, execT_mono (Nat.le_max_left k k2) _ _ _ _ h1]
          exact execT_mono (Nat.le_max_right k k2) _ _ _ _ h2
        | exit j =>
          refine ⟨k + 1, _, _, by rw [execT, h1], ?_⟩
          dsimp only at hq ⊢
          by_cases hj : j = i
          · rw [if_pos hj] at hq ⊢
            obtain ⟨s2, g1, u, rfl, rfl⟩ := hq
            simp only [Option.some.injEq] at hv
            subst hv
            exact ⟨_, g1, next _ hw hfw⟩
          · rw [if_neg hj] at hq; exact hq.elim
        | ret => exact hq.elim
  exact key fuel s0 hw

theorem W_at {c : RC} {s1 : ST} (e : s = s1) (h : W E hp c b N X R s1) : W E hp c b N X R s := by subst e; exact h

/-- a range over a function, with a model that goes over the list of what is yielded -/
theorem W_rfn {σ τ β ρ : Type} {g : RX} {ps : List Nat} {asg body : RC} {i L : Nat} {post2 post : List GA} {bm : σ → τ → Option (σ ⊕ (β ⊕ ρ))} {fin : σ → β} {ys : List τ} {v0 : σ} {F : β → Option ρ} {r : ρ}
    (C : τ → List AV) (en : σ → List Obj) (eb : β → ST) {f : Nat} {cap : List AV} (hgen : E.gen f cap = some (ys.map C)) (h : (iterb bm fin ys v0).bind (Sum.elim F some) = some r)
    (hg : evT E.glob s.tmps g = .fn f cap) (hcap : AV.bels 0 cap = true) (hfl : ∀ y, AV.flats (C y) = true) (hlen : ∀ y, (C y).length = ps.length) (h0 : s.H = en v0) (hL : s.H.length = L)
    (step : ∀ v y c, bm v y = some c → W E hp asg L (fun s1 => W E hp body L (fun s' => ∃ v', c = .inl v' ∧ s'.H = en v')
        (fun j s' => if j = i then Gh b post ⟨s.tmps, s'.H⟩ (fun s' => ∃ w, c = .inr (.inl w) ∧ s' = eb w) else ∃ o, c = .inr (.inr o) ∧ (some o = some r → X j ⟨s.tmps, s'.H⟩))
        (fun s' => ∃ o, c = .inr (.inr o) ∧ (some o = some r → R ⟨s.tmps, s'.H⟩)) s1) (fun _ _ => False) (fun _ => False) ⟨putPT ps (C y) s.tmps, en v⟩)
    (fins : ∀ v, Gh b post2 ⟨s.tmps, en v⟩ (fun s' => Gh b post s' (fun s' => s' = eb (fin v))))
    (next : ∀ w, F w = some r → N (eb w)) : W E hp (.gh [] (.block i (.gh [] (.rfn g ps asg body) post2)) post) b N X R s := by
  have hf : ∀ o, Sum.elim F some (.inr o) = some o := fun _ => rfl
  obtain ⟨x, hx, hfx⟩ := bind_some h
  have key : ∀ ys v, iterb bm fin ys v = some x → ∃ n e H', rndsT (execT E hp n) L s.tmps ps asg body (ys.map C) (en v) = some (e, H') ∧
      (match e with
       | .normal => ∃ v', x = .inl (fin v') ∧ H' = en v'
       | .exit j => if j = i then Gh b post ⟨s.tmps, H'⟩ (fun s' => ∃ w, x = .inl w ∧ s' = eb w) else ∃ o, x = .inr o ∧ (some o = some r → X j ⟨s.tmps, H'⟩)
       | .ret => ∃ o, x = .inr o ∧ (some o = some r → R ⟨s.tmps, H'⟩)) := by
    intro ys
    induction ys with
    | nil =>
      intro v hv
      simp only [iterb, Option.some.injEq] at hv
      exact ⟨0, .normal, en v, rfl, v, hv.symm, rfl⟩
    | cons y ys ih =>
      intro v hv
      rw [iterb] at hv
      cases hb : bm v y with
      | none => rw [hb] at hv; simp at hv
      | some c =>
        rw [hb] at hv
        obtain ⟨n1, e1, s1, h1, hq⟩ := step v y c hb
        cases e1 with
        | exit j => exact hq.elim
        | ret => exact hq.elim
        | normal =>
          obtain ⟨n2, e2, s2, h2, hq⟩ := hq
          have a1 := execT_mono (Nat.le_max_left n1 n2) _ _ _ _ h1
          have a2 := execT_mono (Nat.le_max_right n1 n2) _ _ _ _ h2
          cases e2 with
          | normal =>
            obtain ⟨v', rfl, hH⟩ := hq
            obtain ⟨n3, e3, H3, h3, hq3⟩ := ih v' hv
            refine ⟨max (max n1 n2) n3, e3, H3, ?_, hq3⟩
            rw [List.map_cons, rndsT, if_pos (hlen y), execT_mono (Nat.le_max_left _ n3) _ _ _ _ a1]
            dsimp only
            rw [execT_mono (Nat.le_max_left _ n3) _ _ _ _ a2]
            dsimp only
            rw [hH]
            exact rndsT_mono (execT_mono (Nat.le_max_right _ n3)) _ h3
          | exit j =>
            refine ⟨max n1 n2, .exit j, s2.H, ?_, ?_⟩
            · rw [List.map_cons, rndsT, if_pos (hlen y), a1]; dsimp only; rw [a2]
            · dsimp only at hq ⊢
              by_cases hj : j = i
              · rw [if_pos hj] at hq ⊢
                obtain ⟨s3, g1, w, rfl, rfl⟩ := hq
                simp only [Option.some.injEq] at hv
                exact ⟨_, g1, w, hv.symm, rfl⟩
              · rw [if_neg hj] at hq ⊢
                obtain ⟨o, rfl, ho⟩ := hq
                simp only [Option.some.injEq] at hv
                exact ⟨o, hv.symm, ho⟩
          | ret =>
            refine ⟨max n1 n2, .ret, s2.H, ?_, ?_⟩
            · rw [List.map_cons, rndsT, if_pos (hlen y), a1]; dsimp only; rw [a2]
            · dsimp only at hq ⊢
              obtain ⟨o, rfl, ho⟩ := hq
              simp only [Option.some.injEq] at hv
              exact ⟨o, hv.symm, ho⟩
  obtain ⟨n, e, H', hr, hq⟩ := key ys v0 hx
  have hflat : flatss (ys.map C) = true := by
    have : ∀ l : List τ, flatss (l.map C) = true := by
      intro l
      induction l with
      | nil => rfl
      | cons y l ih => simp [flatss, hfl y, ih]
    exact this ys
  have hex : execT E hp (n + 1) (.rfn g ps asg body) b s = some (e, ⟨s.tmps, H'⟩) := by
    rw [execT, hg]
    simp only [hcap, if_true, hgen, hflat]
    rw [hL, h0, hr]
  refine W_gh (W_block (W_gh ⟨n + 1, e, _, hex, ?_⟩))
  cases e with
  | normal =>
    obtain ⟨v', rfl, rfl⟩ := hq
    obtain ⟨s2, g1, s3, g2, rfl⟩ := fins v'
    exact ⟨s2, g1, _, g2, next _ hfx⟩
  | exit j =>
    dsimp only at hq ⊢
    by_cases hj : j = i
    · rw [if_pos hj] at hq ⊢
      obtain ⟨s2, g1, w, rfl, rfl⟩ := hq
      exact ⟨_, g1, next w hfx⟩
    · rw [if_neg hj] at hq ⊢
      obtain ⟨o, rfl, ho⟩ := hq
      rw [hf] at hfx
      exact ho hfx
  | ret =>
    dsimp only at hq ⊢
    obtain ⟨o, rfl, ho⟩ := hq
    rw [hf] at hfx
    exact ho hfx

/- operations -/
variable {dr : Bool} {t : T} {H : List Obj} {K : T → List Obj → Prop}

theorem O_nil (h : K t H) : WO E hp dr [] t H K := WO_nil.2 h

def stepS (G : Nat → List AV) (o : ROp) (t : T) (H : List Obj) : Option (T × List Obj) :=
  match wantT t o.guard with
  | some true => (match ev1 (evT G t) H.length o.op H with | some (v, H') => some (putD t o.dst v, H') | none => none)
  | some false => some (putD t o.dst (.tup []), H)
  | none => none

def okS (G : Nat → List AV) : Nat → List ROp → T → List Obj → Bool
  | 0, _, _, _ => true
  | _ + 1, [], _, _ => true
  | k + 1, o :: os, t, H => match wantT t o.guard with
    | some false => okS G k os (putD t o.dst (.tup [])) H
    | some true => (match o.op.kind with | .call => false | _ => match ev1 (evT G t) H.length o.op H with | some (v, H') => okS G k os (putD t o.dst v) H' | none => false)
    | none => false

def runS (G : Nat → List AV) : Nat → List ROp → T → List Obj → T × List Obj
  | 0, _, t, H => (t, H)
  | _ + 1, [], t, H => (t, H)
  | k + 1, o :: os, t, H => match wantT t o.guard with
    | some false => runS G k os (putD t o.dst (.tup [])) H
    | some true => (match ev1 (evT G t) H.length o.op H with | some (v, H') => runS G k os (putD t o.dst v) H' | none => (t, H))
    | none => (t, H)

/-- k operations that only compute -/
theorem O_ps : ∀ (k : Nat) {os : List ROp} {t : T} {H : List Obj}, okS E.glob k os t H = true → WO E hp dr (os.drop k) (runS E.glob k os t H).1 (runS E.glob k os t H).2 K → WO E hp dr os t H K
  | 0, os, t, H, _, hk => hk
  | k + 1, [], t, H, _, hk => hk
  | k + 1, o :: os, t, H, h, hk => by
    rw [okS] at h
    rw [runS] at hk
    split at h
    · rename_i hw
      rw [hw] at hk
      exact (WO_skip hw).2 (O_ps k h hk)
    · rename_i hw
      rw [hw] at hk
      have hne : o.op.kind ≠ .call := by intro e; rw [e] at h; simp at h
      have h' : (match ev1 (evT E.glob t) H.length o.op H with | some (v, H') => okS E.glob k os (putD t o.dst v) H' | none => false) = true := by
        cases hk' : o.op.kind <;> rw [hk'] at h <;> first | exact h | exact (hne hk').elim
      refine (WO_op hne).2 ?_
      rw [hw]
      dsimp only
      split at h'
      case h_2 => simp at h'
      rename_i v H1 hv
      dsimp only at hk
      rw [hv] at hk
      rw [hv]
      exact O_ps k h' hk
    · simp at h

theorem O_p (k : Nat) {os : List ROp} {t : T} {H : List Obj} (hk : WO E hp dr (os.drop k) (runS E.glob k os t H).1 (runS E.glob k os t H).2 K) (h : okS E.glob k os t H = true := by kernel_rfl) : WO E hp dr os t H K := O_ps k h hk
/-- a slot with a bool: both ways -/
theorem O_fork {n : Nat} (c : Bool) {os : List ROp} (h : t.put n (.bool c) = t) (ht : c = true → WO E hp dr os (t.put n (.bool true)) H K) (hf : c = false → WO E hp dr os (t.put n (.bool false)) H K) : WO E hp dr os t H K := by
  cases c with
  | true => rw [← h]; exact ht rfl
  | false => rw [← h]; exact hf rfl

theorem O_at {t' : T} {H' : List Obj} {os : List ROp} (ht : t = t') (hH : H = H') (hk : WO E hp dr os t' H' K) : WO E hp dr os t H K := by subst ht; subst hH; exact hk

variable {d : Option Nat} {g : Option (Nat × Bool)} {os : List ROp}

theorem O_idx {α ρ : Type} (C : α → List AV) {l : List α} {i : Int} {kd : IntKind} {f : α → Option ρ} {r : ρ} {sz : Nat} {x ix : RX} (h : (idx l i).bind f = some r) (hC : ∀ x, (C x).length = sz)
    (hw : wantT t g = some true) (hx : evT E.glob t x = .ro (l.map C)) (hi : evT E.glob t ix = .int kd i)
    (hk : ∀ v, idx l i = some v → f v = some r → WO E hp dr os (putD t d (.pro (C v))) H K) : WO E hp dr (⟨d, g, .iadS sz x ix⟩ :: os) t H K := by
  obtain ⟨v, e1, e2⟩ := bind_some h
  refine WO_step (v := .pro (C v)) (H1 := H) (by simp [RO.kind]) hw ?_ (hk v e1 e2)
  unfold idx at e1
  split at e1
  case isFalse => simp at e1
  rename_i h0
  simp only [ev1, evalOpe, RO.kind, evalRe, hx, hi, iadS, h0, if_true, List.getElem?_map, e1, Option.map_some, hC]

theorem O_call {ρ τ : Type} (en : τ → AV) {m : Option τ} {f : τ → Option ρ} {r : ρ} {fn : Nat} {args : List RX} {ys : List AV} (h : m.bind f = some r) (hm : dr = true ∨ hp fn = false)
    (hc : ∀ v, m = some v → Pt E hp fn ys (en v)) (hw : wantT t g = some true) (ha : args.map (evT E.glob t) = ys) (hb : AV.bels 0 ys = true)
    (hk : ∀ v, m = some v → f v = some r → WO E hp dr os (putD t d (en v)) H K) : WO E hp dr (⟨d, g, .call fn args⟩ :: os) t H K := by
  obtain ⟨v, e1, e2⟩ := bind_some h
  subst ha
  exact (WO_do hw).2 (WO_call.2 (WC_free hm hb (hc v e1) (hk v e1 e2)))

theorem O_callv {ρ τ : Type} {f : Nat} {cap : List AV} (en : τ → AV) {m : Option τ} {F : τ → Option ρ} {r : ρ} {x : RX} {args : List RX} {ys : List AV} (h : m.bind F = some r) (hm : dr = true ∨ hp f = false) (hx : evT E.glob t x = .fn f cap)
    (hc : ∀ v, m = some v → Pt E hp f ys (en v)) (hw : wantT t g = some true) (ha : args.map (evT E.glob t) ++ cap = ys) (hb : AV.bels 0 ys = true)
    (hk : ∀ v, m = some v → F v = some r → WO E hp dr os (putD t d (en v)) H K) : WO E hp dr (⟨d, g, .callv x args⟩ :: os) t H K := by
  obtain ⟨v, e1, e2⟩ := bind_some h
  subst ha
  exact (WO_do hw).2 ((WO_callv hx).2 (WC_free hm hb (hc v e1) (hk v e1 e2)))

theorem snaps_none {H : List Obj} : ∀ {xs : List AV} (i : Nat) {v : AV}, xs[i]? = some v → pk 6 H v = none → snaps H xs = none
  | [], i, v, h, _ => by simp at h
  | x :: xs, 0, v, h, h2 => by simp at h; subst h; simp [snaps, mapO, h2]
  | x :: xs, i + 1, v, h, h2 => by
    have := snaps_none (xs := xs) i (by simpa using h) h2
    unfold snaps at this
    simp only [snaps, mapO, this]
    cases pk 6 H x <;> rfl

theorem WC_inl {f : Nat} {xs : List AV} {K : AV → List Obj → Prop} {na nt : Nat} {rs : List (Sum Nat (Nat × Nat × Bool))} {body : RC} (hfn : E.fns f = some ⟨na, nt, rs, body⟩) (hf : hp f = true ∨ snaps H xs = none) (hn : xs.length = na) (hm : na ≤ nt)
    (h : WP E hp body H.length (fun e s' => match e with | .exit _ => False | _ => ∃ l, resultsT rs s' = some l ∧ K (oneOf l) s'.H) ⟨⟨nt, T.puts xs 0⟩, H⟩) : WC E hp false f xs H K := by
  obtain ⟨n, e, s', h, hq⟩ := h
  have key : ∀ {l : List AV}, resultsT rs s' = some l → (e = .normal ∨ e = .ret) → doCall (bif false then fun _ => false else hp) (cIT E.fns (execT E hp n)) (bif false then fun _ _ _ => none else cHT E.fns (execT E hp n)) f xs H = some (oneOf l, s'.H) := by
    intro l hl he
    have hc : cHT E.fns (execT E hp n) f xs H = some (oneOf l, s'.H) := by
      simp only [cHT, hfn, hn, hm, and_self, if_true]
      have hst : startT (⟨na, nt, rs, body⟩ : RF) xs = ⟨nt, T.puts xs 0⟩ := rfl
      rw [hst, h]
      rcases he with rfl | rfl <;> simp only [hl]
    unfold doCall
    simp only [cond_false]
    by_cases hp' : hp f = true
    · rw [if_pos hp']; exact hc
    · rw [if_neg hp']
      rcases hf with hf | hf
      · exact (hp' hf).elim
      · rw [hf]; exact hc
  cases e with
  | exit i => exact hq.elim
  | normal => obtain ⟨l, h1, h2⟩ := hq; exact ⟨n, _, _, key h1 (.inl rfl), h2⟩
  | ret => obtain ⟨l, h1, h2⟩ := hq; exact ⟨n, _, _, key h1 (.inr rfl), h2⟩

/-- a call on the caller's memory: its body, here -/
theorem O_inl {f b : Nat} {args : List RX} {xs : List AV} {na nt : Nat} {rs : List (Sum Nat (Nat × Nat × Bool))} {body : RC} (hfn : E.fns f = some ⟨na, nt, rs, body⟩) (hf : hp f = true ∨ snaps H xs = none) (hn : xs.length = na) (hm : na ≤ nt)
    (hw : wantT t g = some true) (ha : args.map (evT E.glob t) = xs) (hb : H.length = b)
    (h : W E hp body b (fun s' => ∃ l, resultsT rs s' = some l ∧ WO E hp false os (putD t d (oneOf l)) s'.H K) (fun _ _ => False) (fun s' => ∃ l, resultsT rs s' = some l ∧ WO E hp false os (putD t d (oneOf l)) s'.H K) ⟨⟨nt, T.puts xs 0⟩, H⟩) :
    WO E hp false (⟨d, g, .call f args⟩ :: os) t H K := by
  subst ha; subst hb
  refine (WO_do hw).2 (WO_call.2 (WC_inl hfn hf hn hm (WP.mono h fun e s' q => ?_)))
  cases e with
  | exit i => exact q
  | _ => exact q

theorem O_inlv {f b : Nat} {cap : List AV} {x : RX} {args : List RX} {xs : List AV} {na nt : Nat} {rs : List (Sum Nat (Nat × Nat × Bool))} {body : RC} (hfn : E.fns f = some ⟨na, nt, rs, body⟩) (hx : evT E.glob t x = .fn f cap) (hf : hp f = true ∨ snaps H xs = none) (hn : xs.length = na) (hm : na ≤ nt)
    (hw : wantT t g = some true) (ha : args.map (evT E.glob t) ++ cap = xs) (hb : H.length = b)
    (h : W E hp body b (fun s' => ∃ l, resultsT rs s' = some l ∧ WO E hp false os (putD t d (oneOf l)) s'.H K) (fun _ _ => False) (fun s' => ∃ l, resultsT rs s' = some l ∧ WO E hp false os (putD t d (oneOf l)) s'.H K) ⟨⟨nt, T.puts xs 0⟩, H⟩) :
    WO E hp false (⟨d, g, .callv x args⟩ :: os) t H K := by
  subst ha; subst hb
  refine (WO_do hw).2 ((WO_callv hx).2 (WC_inl hfn hf hn hm (WP.mono h fun e s' q => ?_)))
  cases e with
  | exit i => exact q
  | _ => exact q

theorem W_retC {c : RC} {b : Nat} {rs : List (Sum Nat (Nat × Nat × Bool))} {s : ST} {Q : List AV → List Obj → Prop} (l : List AV) (H1 : List Obj)
    (h : W E hp c b (fun s' => resultsT rs s' = some l ∧ s'.H = H1) (fun _ _ => False) (fun s' => resultsT rs s' = some l ∧ s'.H = H1) s) (k : Q l H1) :
    W E hp c b (fun s' => ∃ l, resultsT rs s' = some l ∧ Q l s'.H) (fun _ _ => False) (fun s' => ∃ l, resultsT rs s' = some l ∧ Q l s'.H) s := by
  refine h.mono ?_ (fun _ _ h => h) ?_
  · rintro s' ⟨h1, h2⟩; subst h2; exact ⟨l, h1, k⟩
  · rintro s' ⟨h1, h2⟩; subst h2; exact ⟨l, h1, k⟩

theorem W_retJ {α ρ : Type} {c : RC} {b : Nat} {rs : List (Sum Nat (Nat × Nat × Bool))} {s : ST} {Q : List AV → List Obj → Prop} {m : Option α} {F : α → Option ρ} {r : ρ} (l : α → List AV) (H1 : α → List Obj) (h : m.bind F = some r)
    (h1 : ∀ w, m = some w → W E hp c b (fun s' => resultsT rs s' = some (l w) ∧ s'.H = H1 w) (fun _ _ => False) (fun s' => resultsT rs s' = some (l w) ∧ s'.H = H1 w) s)
    (k : ∀ w, m = some w → F w = some r → Q (l w) (H1 w)) :
    W E hp c b (fun s' => ∃ l, resultsT rs s' = some l ∧ Q l s'.H) (fun _ _ => False) (fun s' => ∃ l, resultsT rs s' = some l ∧ Q l s'.H) s := by
  obtain ⟨w, e1, e2⟩ := bind_some h
  exact W_retC (l w) (H1 w) (h1 w e1) (k w e1 e2)

theorem O_lent {ρ τ : Type} (en : τ → AV) {m : Option τ} {f : τ → Option ρ} {r : ρ} {fn : Nat} {args : List RX} {ys : List AV} (h : m.bind f = some r) (hm : dr = true ∨ hp fn = false)
    (hc : ∀ v, m = some v → Pt E hp fn ys (en v)) (hw : wantT t g = some true) (ha : snaps H (args.map (evT E.glob t)) = some ys) (hfl : ∀ v, (en v).flat = true)
    (hk : ∀ v, m = some v → f v = some r → WO E hp dr os (putD t d (en v)) H K) : WO E hp dr (⟨d, g, .call fn args⟩ :: os) t H K := by
  obtain ⟨v, e1, e2⟩ := bind_some h
  exact (WO_do hw).2 (WO_call.2 (WC_lent hm ha (hc v e1) (hfl v) (hk v e1 e2)))

theorem O_bin {ρ : Type} {m : Option AV} {k : AV → Option ρ} {r : ρ} {op : BinOp} {x y : RX} {vx vy : AV} (h : m.bind k = some r) (hw : wantT t g = some true) (hx : evT E.glob t x = vx) (hy : evT E.glob t y = vy)
    (hm : bin op vx vy = m) (hk : ∀ v, m = some v → k v = some r → WO E hp dr os (putD t d v) H K) : WO E hp dr (⟨d, g, .bin op x y⟩ :: os) t H K := by
  obtain ⟨v, e1, e2⟩ := bind_some h
  refine WO_step (v := v) (H1 := H) (by simp [RO.kind]) hw ?_ (hk v e1 e2)
  simp only [ev1, evalOpe, RO.kind, evalPe, hx, hy, hm, e1]

/-- an operation that may fail, by its value -/
theorem O_op1 {o : ROp} {v : AV} {H1 : List Obj} (hne : o.op.kind ≠ .call) (hw : wantT t o.guard = some true) (he : ev1 (evT E.glob t) H.length o.op H = some (v, H1)) (hk : WO E hp dr os (putD t o.dst v) H1 K) :
    WO E hp dr (o :: os) t H K := WO_step hne hw he hk

theorem O_rem {ρ : Type} {kd : IntKind} {a c : Int} {f : Int → Option ρ} {r : ρ} {x y : RX} (h : (remc a c).bind f = some r) (hw : wantT t g = some true) (hx : evT E.glob t x = .int kd a) (hy : evT E.glob t y = .int kd c)
    (hk : ∀ v, remc a c = some v → f v = some r → WO E hp dr os (putD t d (.int kd v)) H K) : WO E hp dr (⟨d, g, .bin .rem x y⟩ :: os) t H K := by
  obtain ⟨v, e1, e2⟩ := bind_some h
  refine WO_step (v := .int kd v) (H1 := H) (by simp [RO.kind]) hw ?_ (hk v e1 e2)
  unfold remc at e1
  split at e1
  · simp at e1
  rename_i h0
  simp only [Option.some.injEq] at e1
  simp only [ev1, evalOpe, RO.kind, evalPe, hx, hy, Am.bin, binI, h0, if_true, if_false, e1]

theorem O_quo {ρ : Type} {kd : IntKind} {a c : Int} {f : Int → Option ρ} {r : ρ} {x y : RX} (h : (quoc kd a c).bind f = some r) (hw : wantT t g = some true) (hx : evT E.glob t x = .int kd a) (hy : evT E.glob t y = .int kd c)
    (hk : ∀ v, quoc kd a c = some v → f v = some r → WO E hp dr os (putD t d (.int kd v)) H K) : WO E hp dr (⟨d, g, .bin .quo x y⟩ :: os) t H K := by
  obtain ⟨v, e1, e2⟩ := bind_some h
  refine WO_step (v := .int kd v) (H1 := H) (by simp [RO.kind]) hw ?_ (hk v e1 e2)
  unfold quoc at e1
  split at e1
  · simp at e1
  rename_i h0
  simp only [Option.some.injEq] at e1
  simp only [ev1, evalOpe, RO.kind, evalPe, hx, hy, Am.bin, binI, h0, if_true, if_false, e1]

/-- the cells of an element: facts that all encodings have -/
structure EncOk {α : Type} (C : α → List AV) (sz : Nat) : Prop where
  len : ∀ x, (C x).length = sz
  one : ∀ x, allOne (C x) = true
  bel : ∀ x, AV.bels 0 (C x) = true

theorem belss_map {α : Type} {C : α → List AV} (h : ∀ x, AV.bels 0 (C x) = true) : ∀ l : List α, AV.belss 0 (l.map C) = true
  | [] => rfl
  | x :: l => by simp [AV.belss, h x, belss_map h l]

theorem ro_bel {α : Type} {C : α → List AV} (h : ∀ x, AV.bels 0 (C x) = true) (l : List α) : AV.bel 0 (.ro (l.map C)) = true := by simp only [AV.bel]; exact belss_map h l

theorem bels_cons {x : AV} {xs : List AV} (h1 : x.bel 0 = true) (h2 : AV.bels 0 xs = true) : AV.bels 0 (x :: xs) = true := by simp [AV.bels, h1, h2]
theorem bels_append {xs ys : List AV} (h1 : AV.bels 0 xs = true) (h2 : AV.bels 0 ys = true) : AV.bels 0 (xs ++ ys) = true := by
  induction xs with
  | nil => exact h2
  | cons x xs ih => simp only [AV.bels, Bool.and_eq_true, List.cons_append] at h1 ⊢; exact ⟨h1.1, ih h1.2⟩

theorem bels_arr {α : Type} {c1 : α → AV} (h : ∀ x, (c1 x).bel 0 = true) : ∀ l : List α, AV.bels 0 (l.map c1) = true
  | [] => rfl
  | x :: l => by simp [AV.bels, h x, bels_arr h l]
theorem one_arr {α : Type} {c1 : α → AV} (h : ∀ x, (c1 x).one = true) : ∀ l : List α, allOne (l.map c1) = true
  | [] => rfl
  | x :: l => by simp [allOne, h x, one_arr h l]

theorem snaps_of {H : List Obj} {l xs ys : List AV} (e : l = xs) (h : mapO (pk 6 H) xs = some ys) : snaps H l = some ys := by subst e; exact h

theorem elems_own {α : Type} {C : α → List AV} {id n sz : Nat} {nl : Fl} {H : List Obj} {l : List α} {x : AV} (hx : x = .own id n 0 n) (hn : l.length = n) (hH : H[id]? = some (.live nl sz (l.map C))) : elemsOf H x = some (l.map C) := by
  subst hx
  have ht : (l.map C).take n = l.map C := List.take_of_length_le (by simp [hn])
  simp [elemsOf, getLive, hH, hn, ht]

theorem pk_free {d : Nat} {H : List Obj} {v : AV} (h : v.bel 0 = true) : pk d H v = some v := by
  cases d <;> (unfold pk; rw [if_pos (by exact h)])

theorem mapO_bels {d : Nat} {H : List Obj} : ∀ {xs : List AV}, AV.bels 0 xs = true → mapO (pk d H) xs = some xs
  | [], _ => rfl
  | x :: xs, h => by simp only [AV.bels, Bool.and_eq_true] at h; simp [mapO, pk_free h.1, mapO_bels h.2]

theorem mapOO_map {α : Type} {C : α → List AV} {d : Nat} {H : List Obj} (h : ∀ x, AV.bels 0 (C x) = true) : ∀ l : List α, mapOO (pk d H) (l.map C) = some (l.map C)
  | [] => rfl
  | x :: l => by simp [mapOO, mapO_bels (h x), mapOO_map h l]

theorem pk_free' {d : Nat} {H : List Obj} {v : AV} (h : v.bel 0 = true) : pk d H v = some v := pk_free h
theorem mapOO_map' {α : Type} {C : α → List AV} {d : Nat} {H : List Obj} (h : ∀ x, AV.bels 0 (C x) = true) (l : List α) : mapOO (pk d H) (l.map C) = some (l.map C) := mapOO_map h l

/- arrays whose elements are cells -/
theorem O_boxA {α : Type} (c1 : α → AV) {n : Nat} {a : Arr n α} {x : RX} (hw : wantT t g = some true) (hx : evT E.glob t x = .agg (a.1.map c1)) (h1 : ∀ x, (c1 x).one = true)
    (hk : WO E hp dr os (putD t d (.pown H.length 1 0 0)) (H ++ [.live .norm n [a.1.map c1]]) K) : WO E hp dr (⟨d, g, .box x⟩ :: os) t H K := by
  refine WO_step (v := .pown H.length 1 0 0) (H1 := H ++ [.live .norm n [a.1.map c1]]) (by simp [RO.kind]) hw ?_ hk
  simp [ev1, evalOpe, RO.kind, evalWe, hx, AV.cells, one_arr h1, putObj, a.2]

theorem O_iadR {ρ : Type} {n sz id o : Nat} {i : Int} {kd : IntKind} {f : Unit → Option ρ} {r : ρ} {x ix : RX} (h : (rngc i n).bind f = some r) (hw : wantT t g = some true)
    (hx : evT E.glob t x = .pown id 1 0 o) (hi : evT E.glob t ix = .int kd i)
    (hk : 0 ≤ i ∧ i < (n : Int) → f () = some r → WO E hp dr os (putD t d (.pown id 1 0 (o + i.toNat * sz))) H K) : WO E hp dr (⟨d, g, .iadA n sz x ix⟩ :: os) t H K := by
  obtain ⟨v, e1, e2⟩ := bind_some h
  unfold rngc at e1
  split at e1
  case isFalse => simp at e1
  rename_i h0
  refine WO_step (v := .pown id 1 0 (o + i.toNat * sz)) (H1 := H) (by simp [RO.kind]) hw ?_ (hk h0 e2)
  simp only [ev1, evalOpe, RO.kind, evalPe, hx, hi, Am.iadA, Am.fad]
  rw [if_pos h0]

theorem O_ldX {α : Type} [Inhabited α] (c1 : α → AV) {n id sz o k : Nat} {nl : Fl} {pre : List AV} {a : Arr n α} {x : RX} (hw : wantT t g = some true)
    (hx : evT E.glob t x = .pown id 1 0 o) (ho : o = pre.length + k) (hkn : k < n) (hH : H[id]? = some (.live nl sz [pre ++ a.1.map c1])) (hk : WO E hp dr os (putD t d (c1 (a.at k))) H K) : WO E hp dr (⟨d, g, .load 1 false x⟩ :: os) t H K := by
  refine WO_step (v := c1 (a.at k)) (H1 := H) (by simp [RO.kind]) hw ?_ hk
  have ha := a.2
  subst ho
  have hk' : k < a.1.length := by omega
  simp [ev1, evalOpe, RO.kind, evalRe, hx, loadAt, getLive, hH, Am.part, List.getElem?_append_right, hk', Arr.at]

theorem O_stX {α : Type} (c1 : α → AV) {n id sz o k : Nat} {nl : Fl} {pre : List AV} {a : Arr n α} {v : α} {x y : RX} (hw : wantT t g = some true)
    (hx : evT E.glob t x = .pown id 1 0 o) (ho : o = pre.length + k) (hkn : k < n) (hH : H[id]? = some (.live nl sz [pre ++ a.1.map c1])) (hy : evT E.glob t y = c1 v) (h1 : ∀ x, (c1 x).one = true) (hc : ∀ x, (c1 x).cells = [c1 x]) (hsz : pre.length + n ≤ sz) (hnl : nl.free = true)
    (hk : WO E hp dr os (putD t d (.tup [])) (H.set id (.live nl sz [pre ++ (a.put k v).1.map c1])) K) : WO E hp dr (⟨d, g, .store 1 x y⟩ :: os) t H K := by
  refine WO_step (v := .tup []) (H1 := H.set id (.live nl sz [pre ++ (a.put k v).1.map c1])) (by simp [RO.kind]) hw ?_ hk
  subst ho
  simp only [ev1, evalOpe, RO.kind, evalWe, hx, hy, storeAt, getLive, hH, nlAt, hc, List.length_singleton]
  rw [if_pos ⟨trivial, trivial, by omega, by simp [allOne, h1], hnl⟩]
  simp [putAt, Arr.put, List.map_set, List.set_append_right]

theorem O_stW {α : Type} (C : α → List AV) {id n sz : Nat} {nl : Fl} {l l0 : List α} {i : Int} {v0 v' : α} {x y : RX} {cs : List AV} (hv : idx l0 i = some v0) (h0 : l0.length = n) (hn : l.length = n) (hC : ∀ x, (C x).length = sz)
    (hw : wantT t g = some true) (hx : evT E.glob t x = .pown id n i.toNat 0) (hH : H[id]? = some (.live nl sz (l.map C))) (hy : (evT E.glob t y).cells = cs) (hp' : cs = C v') (hc : cs.length = sz) (h1 : allOne cs = true) (hnl : nl.free = true)
    (hk : WO E hp dr os (putD t d (.tup [])) (H.set id (.live nl sz ((l.set i.toNat v').map C))) K) : WO E hp dr (⟨d, g, .store sz x y⟩ :: os) t H K := by
  refine WO_step (v := .tup []) (H1 := H.set id (.live nl sz ((l.set i.toNat v').map C))) (by simp [RO.kind]) hw ?_ hk
  have hput : ∀ (xs cs pre : List AV), cs.length = xs.length → putAt (pre ++ cs) pre.length xs = pre ++ xs := by
    intro xs
    induction xs with
    | nil => intro cs pre hl; simp at hl; simp [putAt, hl]
    | cons x xs ih =>
      intro cs pre hl
      cases cs with
      | nil => simp at hl
      | cons c cs =>
        have := ih cs (pre ++ [x]) (by simpa using hl)
        simp only [List.length_append, List.length_singleton, List.append_assoc, List.singleton_append] at this
        simp only [putAt]
        rw [← this]
        congr 1
        simp
  unfold idx at hv
  split at hv
  case isFalse => simp at hv
  obtain ⟨h2, _⟩ := List.getElem?_eq_some_iff.1 hv
  have h3 : i.toNat < l.length := by omega
  subst hy
  simp only [ev1, evalOpe, RO.kind, evalWe, hx, storeAt, getLive, hH, List.length_map, hn, nlAt]
  rw [if_pos ⟨trivial, hc, by omega, h1, hnl⟩]
  have := hput (evT E.glob t y).cells (C l[i.toNat]) [] (by rw [hC, hc])
  simp only [List.nil_append, List.length_nil, hp'] at this
  simp only [List.getElem?_map, List.getElem?_eq_getElem h3, Option.map_some, List.map_set, hp', this]

theorem O_iadB {α ρ : Type} (c1 : α → AV) {n id : Nat} {a : Arr n α} {i : Int} {kd : IntKind} {f : α → Option ρ} {r : ρ} {x ix : RX} (h : (aidx a i).bind f = some r) (hw : wantT t g = some true)
    (hx : evT E.glob t x = .pown id 1 0 0) (hH : H[id]? = some (.live .norm n [a.1.map c1])) (hi : evT E.glob t ix = .int kd i)
    (hk : ∀ v, aidx a i = some v → f v = some r → WO E hp dr os (putD t d (.pown id 1 0 (0 + i.toNat * 1))) H K) : WO E hp dr (⟨d, g, .iadA n 1 x ix⟩ :: os) t H K := by
  obtain ⟨v, e1, e2⟩ := bind_some h
  refine WO_step (v := .pown id 1 0 (0 + i.toNat * 1)) (H1 := H) (by simp [RO.kind]) hw ?_ (hk v e1 e2)
  unfold aidx idx at e1
  split at e1
  case isFalse => simp at e1
  rename_i h0
  obtain ⟨h1, _⟩ := List.getElem?_eq_some_iff.1 e1
  rw [a.2] at h1
  simp only [ev1, evalOpe, RO.kind, evalPe, hx, hi, Am.iadA, Am.fad]
  rw [if_pos ⟨h0, by omega⟩]

theorem O_ldW {α : Type} {c1 : α → AV} {n id : Nat} {a : Arr n α} {x : RX} (hw : wantT t g = some true)
    (hx : evT E.glob t x = .pown id 1 0 0) (hH : H[id]? = some (.live .norm n [a.1.map c1])) (hk : WO E hp dr os (putD t d (.agg (a.1.map c1))) H K) : WO E hp dr (⟨d, g, .load n true x⟩ :: os) t H K := by
  refine WO_step (v := .agg (a.1.map c1)) (H1 := H) (by simp [RO.kind]) hw ?_ hk
  have e : (a.1.map c1).take n = a.1.map c1 := List.take_of_length_le (by simp [a.2])
  simp [ev1, evalOpe, RO.kind, evalRe, hx, loadAt, getLive, hH, Am.part, a.2, e]

theorem O_ldA {α : Type} (c1 : α → AV) {n id : Nat} {a : Arr n α} {i : Int} {v : α} {x : RX} (hv : aidx a i = some v) (hw : wantT t g = some true)
    (hx : evT E.glob t x = .pown id 1 0 (0 + i.toNat * 1)) (hH : H[id]? = some (.live .norm n [a.1.map c1])) (hk : WO E hp dr os (putD t d (c1 v)) H K) : WO E hp dr (⟨d, g, .load 1 false x⟩ :: os) t H K := by
  refine WO_step (v := c1 v) (H1 := H) (by simp [RO.kind]) hw ?_ hk
  unfold aidx idx at hv
  split at hv
  case isFalse => simp at hv
  simp [ev1, evalOpe, RO.kind, evalRe, hx, loadAt, getLive, hH, Am.part, hv]

theorem O_stA {α : Type} (c1 : α → AV) {n id : Nat} {a : Arr n α} {i : Int} {v0 v : α} {x y : RX} (hv : aidx a i = some v0) (hw : wantT t g = some true)
    (hx : evT E.glob t x = .pown id 1 0 (0 + i.toNat * 1)) (hH : H[id]? = some (.live .norm n [a.1.map c1])) (hy : evT E.glob t y = c1 v) (h1 : ∀ x, (c1 x).one = true) (hc : ∀ x, (c1 x).cells = [c1 x])
    (hk : WO E hp dr os (putD t d (.tup [])) (H.set id (.live .norm n [(a.put i.toNat v).1.map c1])) K) : WO E hp dr (⟨d, g, .store 1 x y⟩ :: os) t H K := by
  refine WO_step (v := .tup []) (H1 := H.set id (.live .norm n [(a.put i.toNat v).1.map c1])) (by simp [RO.kind]) hw ?_ hk
  unfold aidx idx at hv
  split at hv
  case isFalse => simp at hv
  obtain ⟨h2, _⟩ := List.getElem?_eq_some_iff.1 hv
  rw [a.2] at h2
  simp only [ev1, evalOpe, RO.kind, evalWe, hx, hy, storeAt, getLive, hH, nlAt, hc, List.length_singleton]
  rw [if_pos ⟨trivial, trivial, by omega, by simp [allOne, h1], rfl⟩]
  simp [putAt, Arr.put, List.map_set]

theorem O_stB {α : Type} {c1 : α → AV} {n id : Nat} {a : Arr n α} {old : List AV} {x y : RX} (hw : wantT t g = some true)
    (hx : evT E.glob t x = .pown id 1 0 0) (hH : H[id]? = some (.live .norm n [old])) (hy : evT E.glob t y = .agg (a.1.map c1)) (h1 : ∀ x, (c1 x).one = true) (ho : old.length = n)
    (hk : WO E hp dr os (putD t d (.tup [])) (H.set id (.live .norm n [a.1.map c1])) K) : WO E hp dr (⟨d, g, .store n x y⟩ :: os) t H K := by
  refine WO_step (v := .tup []) (H1 := H.set id (.live .norm n [a.1.map c1])) (by simp [RO.kind]) hw ?_ hk
  have hput : ∀ (xs cs pre : List AV), cs.length = xs.length → putAt (pre ++ cs) pre.length xs = pre ++ xs := by
    intro xs
    induction xs with
    | nil => intro cs pre hl; simp at hl; simp [putAt, hl]
    | cons x xs ih =>
      intro cs pre hl
      cases cs with
      | nil => simp at hl
      | cons c cs =>
        have := ih cs (pre ++ [x]) (by simpa using hl)
        simp only [List.length_append, List.length_singleton, List.append_assoc, List.singleton_append] at this
        simp only [putAt]
        rw [← this]
        congr 1
        simp
  simp only [ev1, evalOpe, RO.kind, evalWe, hx, hy, storeAt, getLive, hH, nlAt, AV.cells, List.length_singleton, List.length_map, a.2]
  rw [if_pos ⟨trivial, trivial, by omega, one_arr h1 _, rfl⟩]
  have := hput (a.1.map c1) old [] (by simp [ho, a.2])
  simp only [List.nil_append, List.length_nil] at this
  simp [this]

theorem eqCellsB : ∀ (l m : List Bool), l.length = m.length → eqCells (List.replicate l.length .bool) (l.map AV.bool) (m.map AV.bool) = some (l == m)
  | [], [], _ => rfl
  | x :: l, y :: m, h => by
    have := eqCellsB l m (by simpa using h)
    simp only [List.length_cons, List.replicate_succ, List.map_cons, eqCells, eqCell, this]
    rfl
theorem eqCellsI (k : IntKind) : ∀ (l m : List Int), l.length = m.length → eqCells (List.replicate l.length (.int k)) (l.map (AV.int k)) (m.map (AV.int k)) = some (l == m)
  | [], [], _ => rfl
  | x :: l, y :: m, h => by
    have := eqCellsI k l m (by simpa using h)
    simp only [List.length_cons, List.replicate_succ, List.map_cons, eqCells, eqCell, this, and_self, if_true]
    rfl
theorem O_eqArrB {n : Nat} {a b : Arr n Bool} {neg : Bool} {ks : List CK} {x y : RX} (hw : wantT t g = some true) (hx : evT E.glob t x = .agg (a.1.map AV.bool) ∧ ks = List.replicate n .bool) (hy : evT E.glob t y = .agg (b.1.map AV.bool))
    (hk : WO E hp dr os (putD t d (.bool ((a.1 == b.1) != neg))) H K) : WO E hp dr (⟨d, g, .eqA neg ks x y⟩ :: os) t H K := by
  refine WO_step (v := .bool ((a.1 == b.1) != neg)) (H1 := H) (by simp [RO.kind]) hw ?_ hk
  have e := eqCellsB a.1 b.1 (by rw [a.2, b.2])
  rw [a.2] at e
  simp only [ev1, evalOpe, RO.kind, evalPe, hx.1, hx.2, hy, Am.eqA, e]

theorem slc_arr_pk {α : Type} {C : α → List AV} {c1 : α → AV} (hC : ∀ x, C x = [c1 x]) : ∀ (n : Nat) (l : List α), n ≤ l.length → chunks 1 n (l.map c1) = (l.take n).map C
  | 0, _, _ => by simp [chunks]
  | n + 1, [], h => by simp at h
  | n + 1, x :: l, h => by
    have := slc_arr_pk hC n l (by simpa using h)
    simp only [List.map_cons, chunks, List.take_succ_cons, hC, List.take_zero, List.drop_succ_cons, List.drop_zero, this]

theorem O_slcA {α ρ : Type} {c1 : α → AV} (C : α → List AV) (hC : ∀ x, C x = [c1 x]) (h1 : ∀ x, (c1 x).one = true) (hb : ∀ x, (c1 x).bel 0 = true) {n id : Nat} {a : Arr n α} {lo hi : Option Int} {kl kh : IntKind} {f : List α → Option ρ} {r : ρ} {x : RX} {lx hx' : Option RX}
    (h : (slcc a.1 lo hi).bind f = some r) (hw : wantT t g = some true) (hx : evT E.glob t x = .pown id 1 0 0) (hH : H[id]? = some (.live .norm n [a.1.map c1])) (hl : lx.map (evT E.glob t) = lo.map (.int kl)) (hh : hx'.map (evT E.glob t) = hi.map (.int kh))
    (hk : ∀ v, slcc a.1 lo hi = some v → ∀ y : AV, (∀ {k : Nat} {H' : List Obj}, H'[id]? = some (.live .norm n [a.1.map c1]) → pk (k + 1) H' y = some (.ro (v.map C))) → f v = some r → WO E hp dr os (putD t d y) H K) :
    WO E hp dr (⟨d, g, .slcA n 1 x lx hx'⟩ :: os) t H K := by
  obtain ⟨v, e1, e2⟩ := bind_some h
  have hbel : ∀ x, AV.bels 0 (C x) = true := fun x => by rw [hC]; simp [AV.bels, hb]
  have e1' := e1
  unfold slcc at e1
  split at e1
  case isFalse => simp at e1
  rename_i h0
  simp only [Option.some.injEq] at e1
  have ha := a.2
  have b1 : bnd n n (hi.map (AV.int kh)) = some (hi.getD n).toNat := by
    rw [← ha]
    cases hi with
    | none => simp [bnd]
    | some i => simp only [bnd, Option.map_some, Option.getD_some] at h0 ⊢; rw [if_pos ⟨by omega, h0.2.2⟩]
  have b2 : bnd 0 (hi.getD n).toNat (lo.map (AV.int kl)) = some (lo.getD 0).toNat := by
    rw [← ha]
    cases lo with
    | none => simp [bnd]
    | some i => simp only [bnd, Option.map_some, Option.getD_some] at h0 ⊢; rw [if_pos ⟨h0.1, by omega⟩]
  rw [ha] at h0 e1
  by_cases he : (lo.getD 0).toNat = (hi.getD n).toNat
  · have hv : v = [] := by rw [← e1, he]; simp
    subst hv
    refine WO_step (v := .ro []) (H1 := H) (by simp [RO.kind]) hw ?_ (hk [] e1' (.ro []) (fun _ => pk_free' rfl) e2)
    simp only [ev1, evalOpe, RO.kind, evalRe, hx, hl, hh, Am.slcA, b1, b2, he, if_true]
  · refine WO_step (v := .arr id 1 0 (0 + (lo.getD 0).toNat * 1) 1 ((hi.getD n).toNat - (lo.getD 0).toNat)) (H1 := H) (by simp [RO.kind]) hw ?_ (hk v e1' _ ?_ e2)
    · simp only [ev1, evalOpe, RO.kind, evalRe, hx, hl, hh, Am.slcA, b1, b2, he, if_false, getLive, hH]
      rw [if_pos (by first | exact ⟨rfl, by simp, by omega⟩ | simp)]
    · intro k H' hH'
      unfold pk
      rw [if_neg (by simp [AV.refFree, AV.bel])]
      have hle : (lo.getD 0).toNat ≤ n := by omega
      have hc : chunks 1 ((hi.getD n).toNat - (lo.getD 0).toNat) ((a.1.map c1).drop (lo.getD 0).toNat) = v.map C := by
        rw [← List.map_drop, slc_arr_pk hC _ _ (by simp; omega), e1]
      simp only [arrElems, getLive, hH', List.length_singleton, if_true, List.getElem?_cons_zero, Nat.mul_one, Nat.zero_add]
      rw [if_pos (by simp; omega), hc]
      simp only [mapOO_map' hbel]

theorem O_iadP {α ρ : Type} (c1 : α → AV) {n : Nat} {a : Arr n α} {i : Int} {kd : IntKind} {f : α → Option ρ} {r : ρ} {x ix : RX} (h : (aidx a i).bind f = some r) (hw : wantT t g = some true)
    (hx : evT E.glob t x = .pro (a.1.map c1)) (hi : evT E.glob t ix = .int kd i)
    (hk : ∀ v, aidx a i = some v → ∀ R : List AV, f v = some r → WO E hp dr os (putD t d (.pro (c1 v :: R))) H K) : WO E hp dr (⟨d, g, .iadA n 1 x ix⟩ :: os) t H K := by
  obtain ⟨v, e1, e2⟩ := bind_some h
  refine WO_step (v := .pro (c1 v :: (a.1.map c1).drop (i.toNat + 1))) (H1 := H) (by simp [RO.kind]) hw ?_ (hk v e1 _ e2)
  unfold aidx idx at e1
  split at e1
  case isFalse => simp at e1
  rename_i h0
  obtain ⟨h1, h2⟩ := List.getElem?_eq_some_iff.1 e1
  have hd : (a.1.map c1).drop i.toNat = c1 v :: (a.1.map c1).drop (i.toNat + 1) := by
    rw [List.drop_eq_getElem_cons (by simpa using h1)]; simp [h2]
  have h3 := a.2
  simp only [ev1, evalOpe, RO.kind, evalPe, hx, hi, Am.iadA, Am.fad]
  rw [if_pos ⟨h0, by omega⟩, if_pos (by simp; omega), Nat.mul_one, hd]

theorem O_iadPL {α ρ : Type} (c1 : α → AV) {n : Nat} {l : List α} {cs : List AV} {i : Int} {kd : IntKind} {f : α → Option ρ} {r : ρ} {x ix : RX} (h : (idx l i).bind f = some r) (hw : wantT t g = some true)
    (hx : evT E.glob t x = .pro cs) (hcs : l.map c1 = cs) (hn : l.length = n) (hi : evT E.glob t ix = .int kd i)
    (hk : ∀ v, idx l i = some v → ∀ R : List AV, f v = some r → WO E hp dr os (putD t d (.pro (c1 v :: R))) H K) : WO E hp dr (⟨d, g, .iadA n 1 x ix⟩ :: os) t H K := by
  subst hcs
  exact O_iadP (n := n) (a := ⟨l, hn⟩) c1 h hw hx hi hk

theorem flat_at {α : Type} {C : α → List AV} {n : Nat} (hC : ∀ a, (C a).length = n) : ∀ (l : List α) (k : Nat) (hk : k < l.length), k * n + n ≤ ((l.map C).flatten).length ∧ (((l.map C).flatten.drop (k * n)).take n) = C l[k]
  | x :: l, 0, _ => by
    simp only [List.map_cons, List.flatten_cons, List.length_append, Nat.zero_mul, List.drop_zero, List.getElem_cons_zero, hC x]
    refine ⟨by omega, ?_⟩
    rw [List.take_append_of_le_length (by rw [hC x]; exact Nat.le_refl _), List.take_of_length_le (by rw [hC x]; exact Nat.le_refl _)]
  | x :: l, k + 1, hk => by
    obtain ⟨h1, h2⟩ := flat_at hC l k (by simpa using hk)
    have e : (k + 1) * n = n + k * n := by rw [Nat.succ_mul, Nat.add_comm]
    simp only [List.map_cons, List.flatten_cons, List.length_append, List.getElem_cons_succ, hC x, e]
    refine ⟨by omega, ?_⟩
    have d1 : (C x ++ (List.map C l).flatten).drop n = (List.map C l).flatten := List.drop_left' (hC x)
    rw [← List.drop_drop, d1]
    exact h2

/-- an array's element of several cells -/
theorem O_idxL {α ρ : Type} (C : α → List AV) {n len : Nat} {l : List α} {i : Int} {kd : IntKind} {f : α → Option ρ} {r : ρ} {x ix : RX} (h : (idx l i).bind f = some r) (hC : ∀ a, (C a).length = n) (hlen : l.length = len) (hw : wantT t g = some true)
    (hx : evT E.glob t x = .agg ((l.map C).flatten)) (hi : evT E.glob t ix = .int kd i)
    (hk : ∀ v, idx l i = some v → f v = some r → WO E hp dr os (putD t d (.agg (C v))) H K) : WO E hp dr (⟨d, g, .idxA len n true x ix⟩ :: os) t H K := by
  obtain ⟨v, e1, e2⟩ := bind_some h
  refine WO_step (v := .agg (C v)) (H1 := H) (by simp [RO.kind]) hw ?_ (hk v e1 e2)
  unfold idx at e1
  split at e1
  case isFalse => simp at e1
  rename_i h0
  obtain ⟨h1, h2⟩ := List.getElem?_eq_some_iff.1 e1
  obtain ⟨f1, f2⟩ := flat_at hC l i.toNat h1
  simp only [ev1, evalOpe, RO.kind, evalPe, hx, hi, Am.idxA]
  rw [if_pos ⟨h0, by omega⟩]
  simp only [Am.part, if_true]
  rw [if_pos f1, f2, h2]

/- regions that draw their order, and write -/
def WD (E : Env) (hp : Nat → Bool) (b0 : Nat) (os : List (Nat × ROp)) (t : T) (H : List Obj) (K : T → List Obj → List FP → Prop) : Prop :=
  ∃ n t' H' fs, runDT E.glob (cIT E.fns (execT E hp n)) b0 os t H = some (t', H', fs) ∧ K t' H' fs

theorem WD_nil {b0 : Nat} {K : T → List Obj → List FP → Prop} (h : K t H []) : WD E hp b0 [] t H K := ⟨0, t, H, [], rfl, h⟩

theorem WD_act {b0 k : Nat} {o : ROp} {os : List (Nat × ROp)} {v : AV} {H1 : List Obj} {f : FP} {K : T → List Obj → List FP → Prop} (h : actDT E.glob (fun _ _ => none) (b0 + k) o t H = some (v, H1, f))
    (hk : WD E hp b0 os (putD t o.dst v) H1 (fun t' H' fs => K t' H' (f :: fs))) : WD E hp b0 ((k, o) :: os) t H K := by
  obtain ⟨n, t', H', fs, h1, h2⟩ := hk
  refine ⟨n, t', H', f :: fs, ?_, h2⟩
  rw [runDT, actDT_le (b := cIT E.fns (execT E hp n)) (fun f xs r h => by simp at h) h]
  simp only [frc_eq, h1]

def okD (G : Nat → List AV) (b0 : Nat) : Nat → List (Nat × ROp) → T → List Obj → Bool
  | 0, _, _, _ => true
  | _ + 1, [], _, _ => true
  | n + 1, (k, o) :: os, t, H => match actDT G (fun _ _ => none) (b0 + k) o t H with
    | some (v, H1, _) => okD G b0 n os (putD t o.dst v) H1
    | none => false
def runDs (G : Nat → List AV) (b0 : Nat) : Nat → List (Nat × ROp) → T → List Obj → T × List Obj × List FP
  | 0, _, t, H => (t, H, [])
  | _ + 1, [], t, H => (t, H, [])
  | n + 1, (k, o) :: os, t, H => match actDT G (fun _ _ => none) (b0 + k) o t H with
    | some (v, H1, f) => ((runDs G b0 n os (putD t o.dst v) H1).1, (runDs G b0 n os (putD t o.dst v) H1).2.1, f :: (runDs G b0 n os (putD t o.dst v) H1).2.2)
    | none => (t, H, [])
/-- n operations that only compute -/
theorem WD_ps {b0 : Nat} : ∀ (n : Nat) {os : List (Nat × ROp)} {t : T} {H : List Obj} {K : T → List Obj → List FP → Prop}, okD E.glob b0 n os t H = true →
    WD E hp b0 (os.drop n) (runDs E.glob b0 n os t H).1 (runDs E.glob b0 n os t H).2.1 (fun t' H' fs => K t' H' ((runDs E.glob b0 n os t H).2.2 ++ fs)) → WD E hp b0 os t H K
  | 0, os, t, H, K, _, hk => hk
  | n + 1, [], t, H, K, _, hk => hk
  | n + 1, (k, o) :: os, t, H, K, h, hk => by
    rw [okD] at h
    rw [runDs] at hk
    split at h
    case h_2 => simp at h
    rename_i v H1 f e
    rw [e] at hk
    exact WD_act e (WD_ps n h hk)

theorem evalOpe_pl {ev : RX → AV} {hp : Nat → Bool} {cI : CI} {cH : CH} {op : RO} (h : op.isAlloc = false) (p q : Nat) (H : List Obj) : evalOpe ev hp cI cH p op H = evalOpe ev hp cI cH q op H := by
  cases op <;> first | rfl | (simp [RO.isAlloc] at h)

theorem evalDe_eq {ev : RX → AV} {cI : CI} {pl : Nat} {op : RO} (h : op.isAlloc = false) (H : List Obj) : evalDe ev cI pl op H = evalOpe ev (fun _ => false) cI (fun _ _ _ => none) pl op H := by
  cases op <;> first | rfl | (simp [RO.isAlloc] at h)

theorem WD_op {b0 k : Nat} {d : Option Nat} {op : RO} {os : List (Nat × ROp)} {fp : FP} {K : T → List Obj → List FP → Prop} (ha : op.isAlloc = false) (hf : fpOfe (evT E.glob t) (b0 + k) op = fp)
    (h : WO E hp true [⟨d, none, op⟩] t H (fun t1 H1 => WD E hp b0 os t1 H1 (fun t' H' fs => K t' H' (fp :: fs)))) : WD E hp b0 ((k, ⟨d, none, op⟩) :: os) t H K := by
  obtain ⟨n1, t1, H1, h1, n2, t', H', fs, h2, h3⟩ := h
  refine ⟨max n1 n2, t', H', fp :: fs, ?_, h3⟩
  simp only [cond_true, runOpsT, wantT] at h1
  split at h1
  case h_2 => simp at h1
  rename_i v H2 he
  simp only [frc_eq, Option.some.injEq, Prod.mk.injEq] at h1
  obtain ⟨rfl, rfl⟩ := h1
  have he' : actDT E.glob (cIT E.fns (execT E hp n1)) (b0 + k) ⟨d, none, op⟩ t H = some (v, H2, fp) := by
    simp only [actDT, wantT, plOk, ha, Bool.not_false, Bool.true_or, if_true]
    rw [evalDe_eq ha, evalOpe_pl ha (b0 + k) H.length, he, hf]
  rw [runDT, actDT_le (cIT_mono E.fns (execT_mono (Nat.le_max_left n1 n2))) he']
  simp only [frc_eq]
  rw [runDT_le (cIT_mono E.fns (execT_mono (Nat.le_max_right n1 n2))) os h2]

theorem fp_call {pl f : Nat} {args : List RX} {ys : List AV} (h : args.map (evT E.glob t) = ys) (hb : AV.bels 0 ys = true) : fpOfe (evT E.glob t) pl (.call f args) = { all := false } := by
  subst h
  simp only [fpOfe, hb, Bool.not_true]

theorem W_drawW {b : Nat} {N : ST → Prop} {X : Nat → ST → Prop} {R : ST → Prop} {s : ST} {os : List (Nat × ROp)} {k L : Nat} {ps : List (Nat × Nat)} (hL : s.H.length = L)
    (h : WD E hp L os s.tmps (s.H ++ List.replicate k .rsv) (fun t H fs => pairsDisj fs ps = true ∧ N ⟨t, H⟩)) : W E hp (.drawW os k ps) b N X R s := by
  obtain ⟨n, t', H', fs, h1, h2, h3⟩ := h
  refine ⟨n + 1, .normal, ⟨t', H'⟩, ?_, h3⟩
  rw [execT, hL, h1]
  simp only [h2, if_true]

theorem O_idxA {α ρ : Type} (c1 : α → AV) {n : Nat} {a : Arr n α} {i : Int} {kd : IntKind} {f : α → Option ρ} {r : ρ} {x ix : RX} (h : (aidx a i).bind f = some r) (hw : wantT t g = some true)
    (hx : evT E.glob t x = .agg (a.1.map c1)) (hi : evT E.glob t ix = .int kd i)
    (hk : ∀ v, aidx a i = some v → f v = some r → WO E hp dr os (putD t d (c1 v)) H K) : WO E hp dr (⟨d, g, .idxA n 1 false x ix⟩ :: os) t H K := by
  obtain ⟨v, e1, e2⟩ := bind_some h
  refine WO_step (v := c1 v) (H1 := H) (by simp [RO.kind]) hw ?_ (hk v e1 e2)
  unfold aidx idx at e1
  split at e1
  case isFalse => simp at e1
  rename_i h0
  obtain ⟨h1, h2⟩ := List.getElem?_eq_some_iff.1 e1
  rw [a.2] at h1
  simp only [ev1, evalOpe, RO.kind, evalPe, hx, hi, Am.idxA]
  rw [if_pos ⟨h0, by omega⟩]
  simp [Am.part, e1]

theorem O_len {α : Type} (C : α → List AV) {l : List α} {x : RX} (hw : wantT t g = some true) (hx : evT E.glob t x = .ro (l.map C)) (hk : WO E hp dr os (putD t d (.int .i64 l.length)) H K) :
    WO E hp dr (⟨d, g, .len false x⟩ :: os) t H K := by
  refine WO_step (v := .int .i64 l.length) (H1 := H) (by simp [RO.kind]) hw ?_ hk
  simp [ev1, evalOpe, RO.kind, evalPe, hx, lenOp, lenOf]

/-- a slice that may be nil -/
def encO {α : Type} (C : α → List AV) : Option (List α) → AV
  | none => .nils
  | some l => .ro (l.map C)
theorem O_lenO {α : Type} (C : α → List AV) {l : Option (List α)} {x : RX} (hw : wantT t g = some true) (hx : evT E.glob t x = encO C l) (hk : WO E hp dr os (putD t d (.int .i64 (l.getD []).length)) H K) :
    WO E hp dr (⟨d, g, .len false x⟩ :: os) t H K := by
  refine WO_step (v := .int .i64 (l.getD []).length) (H1 := H) (by simp [RO.kind]) hw ?_ hk
  cases l <;> simp [ev1, evalOpe, RO.kind, evalPe, hx, lenOp, lenOf, encO]
theorem O_eqN {α ρ : Type} {C : α → List AV} {l : Option (List α)} {neg : Bool} {f : Bool → Option ρ} {r : ρ} {x y : RX} (h : (nilQ l).bind f = some r) (hw : wantT t g = some true) (hx : evT E.glob t x = encO C l) (hy : evT E.glob t y = .nils)
    (hk : ∀ v, nilQ l = some v → f v = some r → WO E hp dr os (putD t d (.bool (v != neg))) H K) : WO E hp dr (⟨d, g, .eqN neg x y⟩ :: os) t H K := by
  obtain ⟨v, e1, e2⟩ := bind_some h
  refine WO_step (v := .bool (v != neg)) (H1 := H) (by simp [RO.kind]) hw ?_ (hk v e1 e2)
  unfold nilQ at e1
  split at e1
  · simp only [Option.some.injEq] at e1; subst e1
    simp [ev1, evalOpe, RO.kind, evalRe, hx, hy, Am.eqN, isNil, encO]
  · simp at e1
  · simp only [Option.some.injEq] at e1; subst e1
    simp [ev1, evalOpe, RO.kind, evalRe, hx, hy, Am.eqN, isNil, encO]
theorem O_bslr {α : Type} {C : α → List AV} {z : List AV} {len : Nat} {parts : List (Nat × RX)} {l : List α} (hb : ∀ x, AV.bels 0 (C x) = true) (h1 : (Nat.beq z.length 1 && allOne z && Nat.ble (len * 1) 16777216) = true) (hw : wantT t g = some true)
    (hf : fillS 1 (List.replicate len z) (parts.map fun (i, x) => (i, evT E.glob t x)) = some (l.map C)) (hk : WO E hp dr os (putD t d (.ro (l.map C))) H K) : WO E hp dr (⟨d, g, .bslr z len parts⟩ :: os) t H K := by
  refine WO_step (v := .ro (l.map C)) (H1 := H) (by simp [RO.kind]) hw ?_ hk
  simp only [Bool.and_eq_true, Nat.ble_eq] at h1
  obtain ⟨⟨q1, q2⟩, q3⟩ := h1
  have q1 := Nat.eq_of_beq_eq_true q1
  have q3' : len * 1 ≤ 2 ^ 24 := q3
  simp only [ev1, evalOpe, RO.kind, evalWe, q1, q2, q3', and_self, if_true, hf, belss_map hb]
theorem O_appn {α ρ : Type} {C : α → List AV} {sz bytes : Nat} {z : List AV} {z0 : α} {n : Int} {f : List α → Option ρ} {r : ρ} {x y : RX} (ok : EncOk C sz) (hz : z = C z0) (h : (mkc1 bytes n z0).bind f = some r)
    (hw : wantT t g = some true) (hx : evT E.glob t x = .nils) (hy : evT E.glob t y = .int .i64 n)
    (hk : ∀ v, v = List.replicate n.toNat z0 → f v = some r → WO E hp dr os (putD t d (.own H.length v.length 0 v.length)) (H ++ [.live .norm sz (v.map C)]) K) : WO E hp dr (⟨d, g, .appn sz z bytes x y⟩ :: os) t H K := by
  obtain ⟨v, e1, e2⟩ := bind_some h
  unfold mkc1 at e1
  split at e1
  case isFalse => simp at e1
  rename_i h0
  simp only [Option.some.injEq] at e1
  subst e1
  refine WO_step (v := .own H.length (List.replicate n.toNat z0).length 0 (List.replicate n.toNat z0).length) (H1 := H ++ [.live .norm sz ((List.replicate n.toNat z0).map C)]) (by simp [RO.kind]) hw ?_ (hk _ rfl e2)
  subst hz
  simp only [ev1, evalOpe, RO.kind, evalWe, hx, hy, h0, ok.len, ok.one, and_self, if_true, putObj, Nat.lt_irrefl, if_false, List.map_replicate, List.length_replicate]
theorem O_slc0 {α : Type} {C : α → List AV} {id n sz : Nat} {nl : Fl} {l : List α} {x i : RX} {kd : IntKind} (hn : l.length = n) (hw : wantT t g = some true) (hx : evT E.glob t x = .own id n 0 n) (hi : evT E.glob t i = .int kd 0) (hH : H[id]? = some (.live nl sz (l.map C)))
    (hk : WO E hp dr os (putD t d (.own id n 0 0)) H K) : WO E hp dr (⟨d, g, .slc sz x none (some i)⟩ :: os) t H K := by
  refine WO_step (v := .own id n 0 0) (H1 := H) (by simp [RO.kind]) hw ?_ hk
  simp [ev1, evalOpe, RO.kind, evalRe, hx, hi, Am.slc, getLive, hH, hn, bnd]
theorem O_eqNr {α ρ : Type} {C : α → List AV} {l : List α} {neg : Bool} {f : Unit → Option ρ} {r : ρ} {x y : RX} (h : (nonE l).bind f = some r) (hw : wantT t g = some true) (hx : evT E.glob t x = .ro (l.map C)) (hy : evT E.glob t y = .nils)
    (hk : ∀ v, f v = some r → WO E hp dr os (putD t d (.bool neg)) H K) : WO E hp dr (⟨d, g, .eqN neg x y⟩ :: os) t H K := by
  obtain ⟨v, e1, e2⟩ := bind_some h
  refine WO_step (v := .bool neg) (H1 := H) (by simp [RO.kind]) hw ?_ (hk v e2)
  unfold nonE at e1
  split at e1
  · simp at e1
  · simp [ev1, evalOpe, RO.kind, evalRe, hx, hy, Am.eqN, isNil]
theorem idx_set {α : Type} {l : List α} {i : Int} {v v' : α} (h : idx l i = some v) : idx (l.set i.toNat v') i = some v' := by
  unfold idx at h ⊢
  split at h
  case isFalse => simp at h
  rename_i h0
  obtain ⟨h1, _⟩ := List.getElem?_eq_some_iff.1 h
  rw [if_pos h0, List.getElem?_set_self h1]
theorem O_roo {α ρ : Type} {n : Nat} (C : α → List AV) {l : Option (List α)} {f : List α → Option ρ} {r : ρ} (h : l.bind f = some r) (hs : t.put n (encO C l) = t)
    (hk : ∀ v, l = some v → f v = some r → WO E hp dr os (t.put n (.ro (v.map C))) H K) : WO E hp dr os t H K := by
  obtain ⟨v, e1, e2⟩ := bind_some h
  have := hk v e1 e2
  subst e1
  rw [← hs]; exact this

theorem O_idxS {ρ : Type} {l : List UInt8} {i : Int} {kd : IntKind} {f : UInt8 → Option ρ} {r : ρ} {x ix : RX} (h : (idx l i).bind f = some r)
    (hw : wantT t g = some true) (hx : evT E.glob t x = .str l) (hi : evT E.glob t ix = .int kd i)
    (hk : ∀ v, idx l i = some v → f v = some r → WO E hp dr os (putD t d (.int .u8 (v.toNat : Int))) H K) : WO E hp dr (⟨d, g, .idxS x ix⟩ :: os) t H K := by
  obtain ⟨v, e1, e2⟩ := bind_some h
  refine WO_step (v := .int .u8 (v.toNat : Int)) (H1 := H) (by simp [RO.kind]) hw ?_ (hk v e1 e2)
  unfold idx at e1
  split at e1
  case isFalse => simp at e1
  rename_i h0
  simp only [ev1, evalOpe, RO.kind, evalPe, hx, hi, Am.idxS, h0, if_true, e1]

theorem O_cat {ρ : Type} {a c : List UInt8} {f : List UInt8 → Option ρ} {r : ρ} {x y : RX} (h : (catc a c).bind f = some r) (hw : wantT t g = some true) (hx : evT E.glob t x = .str a) (hy : evT E.glob t y = .str c)
    (hk : ∀ v, v = a ++ c → f v = some r → WO E hp dr os (putD t d (.str v)) H K) : WO E hp dr (⟨d, g, .bin .add x y⟩ :: os) t H K := by
  obtain ⟨v, e1, e2⟩ := bind_some h
  unfold catc at e1
  split at e1
  case isFalse => simp at e1
  rename_i h0
  simp only [Option.some.injEq] at e1
  refine WO_step (v := .str v) (H1 := H) (by simp [RO.kind]) hw ?_ (hk v e1.symm e2)
  simp only [ev1, evalOpe, RO.kind, evalPe, hx, hy, Am.bin, binS, h0, if_true, e1]

theorem O_slcS {ρ : Type} {l : List UInt8} {lo hi : Option Int} {kl kh : IntKind} {f : List UInt8 → Option ρ} {r : ρ} {x : RX} {lx hx' : Option RX}
    (h : (slcc l lo hi).bind f = some r) (hw : wantT t g = some true) (hx : evT E.glob t x = .str l) (hl : lx.map (evT E.glob t) = lo.map (.int kl)) (hh : hx'.map (evT E.glob t) = hi.map (.int kh))
    (hk : ∀ v, slcc l lo hi = some v → f v = some r → WO E hp dr os (putD t d (.str v)) H K) : WO E hp dr (⟨d, g, .slcS x lx hx'⟩ :: os) t H K := by
  obtain ⟨v, e1, e2⟩ := bind_some h
  refine WO_step (v := .str v) (H1 := H) (by simp [RO.kind]) hw ?_ (hk v e1 e2)
  unfold slcc at e1
  split at e1
  case isFalse => simp at e1
  rename_i h0
  simp only [Option.some.injEq] at e1
  simp only [ev1, evalOpe, RO.kind, evalPe, hx, hl, hh, Am.slcS]
  have b1 : bnd l.length l.length (hi.map (AV.int kh)) = some (hi.getD l.length).toNat := by
    cases hi with
    | none => simp [bnd]
    | some i => simp only [bnd, Option.map_some, Option.getD_some] at h0 ⊢; rw [if_pos ⟨by omega, h0.2.2⟩]
  have b2 : bnd 0 (hi.getD l.length).toNat (lo.map (AV.int kl)) = some (lo.getD 0).toNat := by
    cases lo with
    | none => simp [bnd]
    | some i => simp only [bnd, Option.map_some, Option.getD_some] at h0 ⊢; rw [if_pos ⟨h0.1, by omega⟩]
  simp only [b1, b2, e1]

/-- a pointer to an element of an own slice -/
theorem O_iadO {α ρ : Type} (C : α → List AV) {id n sz : Nat} {nl : Fl} {l : List α} {i : Int} {kd : IntKind} {f : α → Option ρ} {r : ρ} {x ix : RX} (h : (idx l i).bind f = some r) (hn : l.length = n)
    (hw : wantT t g = some true) (hx : evT E.glob t x = .own id n 0 n) (hH : H[id]? = some (.live nl sz (l.map C))) (hi : evT E.glob t ix = .int kd i)
    (hk : ∀ v, idx l i = some v → f v = some r → WO E hp dr os (putD t d (.pown id n i.toNat 0)) H K) : WO E hp dr (⟨d, g, .iadS sz x ix⟩ :: os) t H K := by
  obtain ⟨v, e1, e2⟩ := bind_some h
  refine WO_step (v := .pown id n i.toNat 0) (H1 := H) (by simp [RO.kind]) hw ?_ (hk v e1 e2)
  unfold idx at e1
  split at e1
  case isFalse => simp at e1
  rename_i h0
  obtain ⟨h1, _⟩ := List.getElem?_eq_some_iff.1 e1
  simp only [ev1, evalOpe, RO.kind, evalRe, hx, hi, iadS, getLive, hH, List.length_map, hn]
  rw [if_pos ⟨trivial, trivial, h0, by omega⟩]
  simp

theorem O_ldO {α : Type} (C : α → List AV) {id n m sz o : Nat} {nl : Fl} {ag : Bool} {l : List α} {i : Int} {v : α} {w : AV} {x : RX} (hv : idx l i = some v) (hn : l.length = n)
    (hw : wantT t g = some true) (hx : evT E.glob t x = .pown id n i.toNat o) (hH : H[id]? = some (.live nl sz (l.map C))) (hpt : Am.part m ag (C v) o = some w)
    (hk : WO E hp dr os (putD t d w) H K) : WO E hp dr (⟨d, g, .load m ag x⟩ :: os) t H K := by
  refine WO_step (v := w) (H1 := H) (by simp [RO.kind]) hw ?_ hk
  unfold idx at hv
  split at hv
  case isFalse => simp at hv
  simp only [ev1, evalOpe, RO.kind, evalRe, hx, loadAt, getLive, hH, List.length_map, hn, if_true, List.getElem?_map, hv, Option.map_some, hpt]

theorem O_stO {α : Type} (C : α → List AV) {id n m sz o : Nat} {nl : Fl} {l : List α} {i : Int} {v v' : α} {x y : RX} {cs : List AV} (hv : idx l i = some v) (hn : l.length = n)
    (hw : wantT t g = some true) (hx : evT E.glob t x = .pown id n i.toNat o) (hH : H[id]? = some (.live nl sz (l.map C))) (hy : (evT E.glob t y).cells = cs) (hc : cs.length = m) (ho : o + m ≤ sz) (h1 : allOne cs = true)
    (hpt : putAt (C v) o cs = C v') (hnl : nl.free = true)
    (hk : WO E hp dr os (putD t d (.tup [])) (H.set id (.live nl sz ((l.set i.toNat v').map C))) K) : WO E hp dr (⟨d, g, .store m x y⟩ :: os) t H K := by
  refine WO_step (v := .tup []) (H1 := H.set id (.live nl sz ((l.set i.toNat v').map C))) (by simp [RO.kind]) hw ?_ hk
  unfold idx at hv
  split at hv
  case isFalse => simp at hv
  subst hy
  simp only [ev1, evalOpe, RO.kind, evalWe, hx, storeAt, getLive, hH, List.length_map, hn, nlAt]
  rw [if_pos ⟨trivial, hc, ho, h1, hnl⟩]
  simp only [List.getElem?_map, hv, Option.map_some, hpt, List.map_set]

theorem O_app {α ρ : Type} {C : α → List AV} {sz bytes id n : Nat} {nl : Fl} {l m : List α} {f : List α → Option ρ} {r : ρ} {x y : RX} (ok : EncOk C sz) (h : (appc bytes l m).bind f = some r) (hn : l.length = n)
    (hw : wantT t g = some true) (hx : evT E.glob t x = .own id n 0 n) (hH : H[id]? = some (.live nl sz (l.map C))) (hs : elemsOf H (evT E.glob t y) = some (m.map C)) (hnl : nl.grows = true)
    (hk : ∀ v, v = l ++ m → f v = some r → WO E hp dr os (putD t d (.own id v.length 0 v.length)) (H.set id (.live nl sz (v.map C))) K) : WO E hp dr (⟨d, g, .app sz bytes x y⟩ :: os) t H K := by
  obtain ⟨v, e1, e2⟩ := bind_some h
  unfold appc at e1
  split at e1
  case isFalse => simp at e1
  rename_i h0
  simp only [Option.some.injEq] at e1
  subst e1
  refine WO_step (v := .own id (l ++ m).length 0 (l ++ m).length) (H1 := H.set id (.live nl sz ((l ++ m).map C))) (by simp [RO.kind]) hw ?_ (hk _ rfl e2)
  have hall : ((m.map C).all fun e => e.length == sz && allOne e) = true := by simp [ok.len, ok.one]
  simp only [ev1, evalOpe, RO.kind, evalWe, append, hs, hall, if_true, hx, getLive, hH, List.length_map, hn, nlAt]
  have hm : (m.map C).length = m.length := by simp
  rw [if_pos ⟨trivial, trivial, trivial, trivial, by rw [← hn]; exact h0.1, by rw [← hn]; exact h0.2⟩, if_pos hnl]
  simp [hn]

theorem O_appN {α ρ : Type} {C : α → List AV} {sz bytes : Nat} {m : List α} {f : List α → Option ρ} {r : ρ} {x y : RX} (ok : EncOk C sz) (h : (appc bytes [] m).bind f = some r) (hm : m ≠ [])
    (hw : wantT t g = some true) (hx : evT E.glob t x = .nils) (hs : elemsOf H (evT E.glob t y) = some (m.map C))
    (hk : f m = some r → WO E hp dr os (putD t d (.own H.length m.length 0 m.length)) (H ++ [.live .norm sz (m.map C)]) K) : WO E hp dr (⟨d, g, .app sz bytes x y⟩ :: os) t H K := by
  obtain ⟨v, e1, e2⟩ := bind_some h
  unfold appc at e1
  split at e1
  case isFalse => simp at e1
  rename_i h0
  simp only [Option.some.injEq, List.nil_append] at e1
  subst e1
  refine WO_step (v := .own H.length m.length 0 m.length) (H1 := H ++ [.live .norm sz (m.map C)]) (by simp [RO.kind]) hw ?_ (hk e2)
  have hall : ((m.map C).all fun e => e.length == sz && allOne e) = true := by simp [ok.len, ok.one]
  simp only [List.length_nil, Nat.zero_add] at h0
  simp only [ev1, evalOpe, RO.kind, evalWe, append, hs, hall, if_true, hx, List.map_eq_nil_iff, hm, if_false, List.length_map, h0, and_self, putObj, Nat.lt_irrefl]

theorem O_mks {α ρ : Type} {C : α → List AV} {sz bytes : Nat} {z : List AV} {z0 : α} {n : Int} {f : List α → Option ρ} {r : ρ} {x y : RX} (ok : EncOk C sz) (hz : z = C z0) (h : (mkc bytes n z0).bind f = some r)
    (hw : wantT t g = some true) (hx : evT E.glob t x = .int .i64 n) (hy : evT E.glob t y = .int .i64 n)
    (hk : ∀ v, v = List.replicate n.toNat z0 → f v = some r → WO E hp dr os (putD t d (.own H.length v.length 0 v.length)) (H ++ [.live .norm sz (v.map C)]) K) : WO E hp dr (⟨d, g, .mks sz z bytes x y⟩ :: os) t H K := by
  obtain ⟨v, e1, e2⟩ := bind_some h
  unfold mkc at e1
  split at e1
  case isFalse => simp at e1
  rename_i h0
  simp only [Option.some.injEq] at e1
  subst e1
  refine WO_step (v := .own H.length (List.replicate n.toNat z0).length 0 (List.replicate n.toNat z0).length) (H1 := H ++ [.live .norm sz ((List.replicate n.toNat z0).map C)]) (by simp [RO.kind]) hw ?_ (hk _ rfl e2)
  subst hz
  simp only [ev1, evalOpe, RO.kind, evalWe, hx, hy, h0, ok.len, ok.one, and_self, if_true, putObj, Nat.lt_irrefl, if_false, List.map_replicate, List.length_replicate]

theorem O_slc {α ρ : Type} (C : α → List AV) {sz : Nat} {l : List α} {lo hi : Option Int} {kl kh : IntKind} {f : List α → Option ρ} {r : ρ} {x : RX} {lx hx' : Option RX} (hC : ∀ x, (C x).length = sz)
    (h : (slcc l lo hi).bind f = some r) (hw : wantT t g = some true) (hx : evT E.glob t x = .ro (l.map C)) (hl : lx.map (evT E.glob t) = lo.map (.int kl)) (hh : hx'.map (evT E.glob t) = hi.map (.int kh))
    (hk : ∀ v, slcc l lo hi = some v → f v = some r → WO E hp dr os (putD t d (.ro (v.map C))) H K) : WO E hp dr (⟨d, g, .slc sz x lx hx'⟩ :: os) t H K := by
  obtain ⟨v, e1, e2⟩ := bind_some h
  refine WO_step (v := .ro (v.map C)) (H1 := H) (by simp [RO.kind]) hw ?_ (hk v e1 e2)
  unfold slcc at e1
  split at e1
  case isFalse => simp at e1
  rename_i h0
  simp only [Option.some.injEq] at e1
  simp only [ev1, evalOpe, RO.kind, evalRe, hx, hl, hh, slc, List.length_map]
  have b1 : bnd l.length l.length (hi.map (AV.int kh)) = some (hi.getD l.length).toNat := by
    cases hi with
    | none => simp [bnd]
    | some i => simp only [bnd, Option.map_some, Option.getD_some] at h0 ⊢; rw [if_pos ⟨by omega, h0.2.2⟩]
  have b2 : bnd 0 (hi.getD l.length).toNat (lo.map (AV.int kl)) = some (lo.getD 0).toNat := by
    cases lo with
    | none => simp [bnd]
    | some i => simp only [bnd, Option.map_some, Option.getD_some] at h0 ⊢; rw [if_pos ⟨h0.1, by omega⟩]
  simp only [b1, b2]
  subst e1
  by_cases he : (lo.getD 0).toNat = (hi.getD l.length).toNat
  · rw [if_pos he]; simp [he]
  · rw [if_neg he]
    have hlt : (lo.getD 0).toNat < l.length := by omega
    simp only [List.getElem?_map, List.getElem?_eq_getElem hlt, Option.map_some, hC, if_true, List.map_take, List.map_drop]

end

/-- a function's contract, by its body -/
def Fin (rs : List (Sum Nat (Nat × Nat × Bool))) (r : AV) (s : ST) : Prop := ∃ l, resultsT rs s = some l ∧ pack s.H (oneOf l) = some r

section
variable {E : Env} {hp : Nat → Bool}

theorem Pt_W {f : Nat} {xs : List AV} {r : AV} {na nt : Nat} {rs : List (Sum Nat (Nat × Nat × Bool))} {body : RC} (hfn : E.fns f = some ⟨na, nt, rs, body⟩) (hn : xs.length = na) (hm : na ≤ nt)
    (h : W E hp body 0 (Fin rs r) (fun _ _ => False) (Fin rs r) ⟨⟨nt, T.puts xs 0⟩, []⟩) : Pt E hp f xs r := by
  refine Pt_of hfn hn hm ?_
  refine WP.mono h fun e s' q => ?_
  cases e <;> exact q

theorem pack_free {H : List Obj} {v : AV} (h : v.bel 0 = true) : pack H v = some v := by
  unfold pack pk
  rw [if_pos (by exact h)]

theorem Fin_free {rs : List (Sum Nat (Nat × Nat × Bool))} {r : AV} {s : ST} {l : List AV} (h1 : resultsT rs s = some l) (h2 : oneOf l = r) (h3 : r.bel 0 = true) : Fin rs r s := ⟨l, h1, by rw [h2]; exact pack_free h3⟩

/-- what a closure holds -/
theorem pkc_box {p : AV → Option AV} {H : List Obj} {id sz o : Nat} {nl : Fl} {cs l : List AV} (hH : H[id]? = some (.live nl sz [cs])) (h : mapO p (cs.drop o) = some l) : pkc p H (.pown id 1 0 o) = some (.pro l) := by
  simp [pkc, getLive, hH, h]
theorem pkc_free {d : Nat} {H : List Obj} {v : AV} (h : v.bel 0 = true) : pkc (pk d H) H v = some v := by
  unfold pkc
  split
  · simp [AV.bel] at h
  · exact pk_free h
theorem mapO_pkc {d : Nat} {H : List Obj} : ∀ {xs : List AV}, AV.bels 0 xs = true → mapO (pkc (pk d H) H) xs = some xs
  | [], _ => rfl
  | x :: xs, h => by simp only [AV.bels, Bool.and_eq_true] at h; simp [mapO, pkc_free h.1, mapO_pkc h.2]
theorem pk_fn {d f : Nat} {H : List Obj} {xs ys : List AV} (h : mapO (pkc (pk d H) H) xs = some ys) : pk (d + 1) H (.fn f xs) = some (.fn f ys) := by
  cases hne : AV.bels 0 xs with
  | true =>
    rw [mapO_pkc hne] at h
    injection h with h; subst h
    exact pk_free (by simpa [AV.bel] using hne)
  | false =>
    unfold pk
    rw [if_neg (by simp [AV.refFree, AV.bel, hne])]
    simp [h]

/-- an own slice, handed out -/
theorem pk_own {α : Type} {C : α → List AV} {d id n sz : Nat} {nl : Fl} {H : List Obj} {l : List α} (h : ∀ x, AV.bels 0 (C x) = true) (hH : H[id]? = some (.live nl sz (l.map C))) (hn : l.length = n) : pk (d + 1) H (.own id n 0 n) = some (.ro (l.map C)) := by
  unfold pk
  rw [if_neg (by simp [AV.refFree, AV.bel])]
  simp only [getLive, hH, List.length_map, hn, if_true, List.drop_zero]
  have : (l.map C).take n = l.map C := List.take_of_length_le (by simp [hn])
  rw [this, mapOO_map h]
  rfl

theorem mapO_cons {f : AV → Option AV} {x y : AV} {xs ys : List AV} (h1 : f x = some y) (h2 : mapO f xs = some ys) : mapO f (x :: xs) = some (y :: ys) := by simp [mapO, h1, h2]

theorem pk_tup {d : Nat} {H : List Obj} {xs ys : List AV} (h : mapO (pk d H) xs = some ys) : pk (d + 1) H (.tup xs) = some (.tup ys) := by
  cases hne : AV.bels 0 xs with
  | true =>
    rw [mapO_bels hne] at h
    injection h with h; subst h
    exact pk_free (by simpa [AV.bel] using hne)
  | false =>
    unfold pk
    rw [if_neg (by simp [AV.refFree, AV.bel, hne])]
    simp [h]
theorem pk_agg {d : Nat} {H : List Obj} {xs ys : List AV} (h : mapO (pk d H) xs = some ys) : pk (d + 1) H (.agg xs) = some (.agg ys) := by
  cases hne : AV.bels 0 xs with
  | true =>
    rw [mapO_bels hne] at h
    injection h with h; subst h
    exact pk_free (by simpa [AV.bel] using hne)
  | false =>
    unfold pk
    rw [if_neg (by simp [AV.refFree, AV.bel, hne])]
    simp [h]

theorem res_arr {α : Type} {c1 : α → AV} {n id tt : Nat} {a : Arr n α} {s : ST} (hx : s.tmps.get tt = .pown id 1 0 0) (hH : s.H[id]? = some (.live .norm n [a.1.map c1])) : resultsT [.inr (tt, n, true)] s = some [.agg (a.1.map c1)] := by
  have e : (a.1.map c1).take n = a.1.map c1 := List.take_of_length_le (by simp [a.2])
  simp [resultsT, hx, loadAt, getLive, hH, Am.part, a.2, e]
theorem Fin_pk {rs : List (Sum Nat (Nat × Nat × Bool))} {r : AV} {s : ST} {l : List AV} (h1 : resultsT rs s = some l) (h3 : pk 6 s.H (oneOf l) = some r) : Fin rs r s := ⟨l, h1, h3⟩

/-- a frozen own slice -/
theorem frz_own {α : Type} {C : α → List AV} {b tt id n sz : Nat} {nl : Fl} {s s1 : ST} {l : List α} (h : ∀ x, AV.bels 0 (C x) = true) (hx : s.tmps.get tt = .own id n 0 n) (hH : s.H[id]? = some (.live nl sz (l.map C))) (hn : l.length = n) (hnl : nl.free = true)
    (e : (⟨s.tmps.put tt (.ro (l.map C)), s.H.set id .dead⟩ : ST) = s1) : ghost1T b s (.frz tt) = some s1 := by
  have ht : (l.map C).take n = l.map C := List.take_of_length_le (by simp [hn])
  simp only [ghost1T, frzT, hx, getLive, hH, nlAt, hnl, List.length_map, hn, List.drop_zero, ht, belss_map h, and_self, if_true, roOf, e]

/-- all of an object's elements are forgotten -/
theorem cut_own {α : Type} {C : α → List AV} {b tt id n sz : Nat} {s s1 : ST} {l : List α} (h : ∀ x, AV.bels 0 (C x) = true) (hx : s.tmps.get tt = .own id n 0 0) (hH : s.H[id]? = some (.live .norm sz (l.map C))) (hn : l.length = n) (hb : Nat.ble b id = true) (hlast : Nat.beq (id + 1) s.H.length = true)
    (ht : T.bels id (s.tmps.put tt .any) = true) (ho : objsBel id (s.H.take id) = true) (e' : (⟨s.tmps.put tt (.own id 0 0 0), s.H.set id (.live .norm sz [])⟩ : ST) = s1) : ghost1T b s (.cut tt) = some s1 := by
  have hbe : AV.belss id (l.map C) = true := belss_mapn h id l
  have h1 : Nat.beq n (l.map C).length = true := by rw [List.length_map, hn]; exact Nat.beq_refl n
  have h2 : Nat.ble 0 n = true := by simp
  simp only [ghost1T, hx, hH, hb, hlast, ht, ho, hbe, h1, h2, Bool.and_self, if_true, List.take_zero, e']
/-- a slice in a variable's cell -/
theorem frzb_own {α : Type} {C : α → List AV} {b tt id e o ext j n sz off : Nat} {nl : Fl} {s s1 : ST} {l : List α} {H' : List Obj} (h : ∀ x, AV.bels 0 (C x) = true) (hx : s.tmps.get tt = .pown id ext e o) (hl : loadAt s.H 1 false (.pown id ext e (o + off)) = some (.own j n 0 n)) (hj : j ≠ id)
    (hH : s.H[j]? = some (.live nl sz (l.map C))) (hn : l.length = n) (hnl : nl.free = true) (hst : storeAt (s.H.set j .dead) 1 (.pown id ext e (o + off)) (.ro (l.map C)) = some H') (e' : (⟨s.tmps, H'⟩ : ST) = s1) : ghost1T b s (.frzb tt off) = some s1 := by
  have ht : (l.map C).take n = l.map C := List.take_of_length_le (by simp [hn])
  have hz : frz1 0 ⟨[.own j n 0 n], s.H⟩ = some ⟨[.ro (l.map C)], s.H.set j .dead⟩ := by
    simp only [frz1, List.getD_cons_zero, getLive, hH, nlAt, hnl, List.length_map, hn, List.drop_zero, ht, belss_map h, and_self, if_true, roOf, List.set_cons_zero]
  simp only [ghost1T, hx, hl, hz, hst, if_neg hj, e']

theorem frz_raw {α : Type} {C : α → List AV} {b tt id sz : Nat} {s s1 : ST} {l : List α} (h : ∀ x, AV.bels 0 (C x) = true) (hx : s.tmps.get tt = .own id l.length 0 l.length) (hH : s.H[id]? = some (.live .norm sz (l.map C)))
    (e : (⟨s.tmps.put tt (.ro (l.map C)), s.H.set id .dead⟩ : ST) = s1) : ghost1T b s (.frz tt) = some s1 := frz_own h hx hH rfl rfl e

/- encodings -/
def cI_i64 (n : Int) : List AV := [.int .i64 n]
def cI_u64 (n : Int) : List AV := [.int .u64 n]
def cI_u8 (n : Int) : List AV := [.int .u8 n]
def cI_i32 (n : Int) : List AV := [.int .i32 n]
def cB (b : Bool) : List AV := [.bool b]
def cS (s : List UInt8) : List AV := [.str s]
def cL {α : Type} (C : α → List AV) (l : List α) : List AV := [.ro (l.map C)]
def c1L {α : Type} (C : α → List AV) (l : List α) : AV := .ro (l.map C)
def cP2 {α : Type} (C : α → List AV) (p : α × α) : List AV := C p.1 ++ C p.2
def cP3 {α : Type} (C : α → List AV) (p : α × α × α) : List AV := C p.1 ++ (C p.2.1 ++ C p.2.2)
def cA {n : Nat} {α : Type} (c1 : α → AV) (a : Arr n α) : List AV := a.1.map c1
theorem okI_i64 : EncOk cI_i64 1 := ⟨fun _ => rfl, fun _ => rfl, fun _ => rfl⟩
theorem okI_u64 : EncOk cI_u64 1 := ⟨fun _ => rfl, fun _ => rfl, fun _ => rfl⟩
theorem okI_u8 : EncOk cI_u8 1 := ⟨fun _ => rfl, fun _ => rfl, fun _ => rfl⟩
theorem okI_i32 : EncOk cI_i32 1 := ⟨fun _ => rfl, fun _ => rfl, fun _ => rfl⟩
theorem okB : EncOk cB 1 := ⟨fun _ => rfl, fun _ => rfl, fun _ => rfl⟩
theorem okStr : EncOk cS 1 := ⟨fun _ => rfl, fun _ => rfl, fun _ => rfl⟩
theorem okL {α : Type} {C : α → List AV} {n : Nat} (h : EncOk C n) : EncOk (cL C) 1 := ⟨fun _ => rfl, fun _ => rfl, fun l => bels_cons (ro_bel h.bel l) rfl⟩
theorem allOne_app {xs ys : List AV} (h1 : allOne xs = true) (h2 : allOne ys = true) : allOne (xs ++ ys) = true := by
  induction xs with
  | nil => exact h2
  | cons x xs ih => simp only [allOne, Bool.and_eq_true, List.cons_append] at h1 ⊢; exact ⟨h1.1, ih h1.2⟩
theorem okP2 {α : Type} {C : α → List AV} {n : Nat} (h : EncOk C n) : EncOk (cP2 C) (2 * n) :=
  ⟨fun p => by simp [cP2, h.len]; omega, fun p => allOne_app (h.one _) (h.one _), fun p => bels_append (h.bel _) (h.bel _)⟩
theorem okP3 {α : Type} {C : α → List AV} {n : Nat} (h : EncOk C n) : EncOk (cP3 C) (3 * n) :=
  ⟨fun p => by simp [cP3, h.len]; omega, fun p => allOne_app (h.one _) (allOne_app (h.one _) (h.one _)), fun p => bels_append (h.bel _) (bels_append (h.bel _) (h.bel _))⟩
theorem okA {α : Type} {c1 : α → AV} (n : Nat) (h1 : ∀ x, (c1 x).one = true) (h2 : ∀ x, (c1 x).bel 0 = true) : EncOk (cA (n := n) c1) n :=
  ⟨fun a => by simp [cA, a.2], fun a => one_arr h1 _, fun a => bels_arr h2 _⟩

end
end Go.Am.As
