/- Equality of values without references, joined. Condition: flatKinds. -/
import Derived.Test.YteoiegapifoboaaAmJ
namespace Go.Am
section
variable {P : Program} {c : Ctx}

/-- the parts at a place of two values of a type are compared as their cells are -/
def EqAt (P : Program) (c : Ctx) (d : Nat) (t : TypeId) (ks : List CK) : Prop :=
  ∀ D, d ≤ D → ∀ (cs ds : List AV) (xs ys : Array Value) (o : Nat) (b : Bool) (w : World), PV c cs xs → PV c ds ys →
    eqCells ks ((cs.drop o).take ks.length) ((ds.drop o).take ks.length) = some b →
    ∃ px py, (Go.part t xs o).run P w = .ok px w ∧ (Go.part t ys o).run P w = .ok py w ∧ (Op.equalIn D t px py).run P w = .ok b w

theorem take_drop_take {α : Type} (l : List α) (o n i m : Nat) (h : i + m ≤ n) : (((l.drop o).take n).drop i).take m = (l.drop (o + i)).take m := by
  rw [List.drop_take, List.drop_drop, List.take_take, Nat.min_eq_left (by omega)]

theorem fields_run (d : Nat) : ∀ (fs : List Field) (k off : Nat) (ks : List CK), k ≤ d → 
    fieldKinds P k off fs = some ks → (∀ k' t ks', k' ≤ d → flatKinds P k' t = some ks' → EqAt P c k' t ks') → 
    ∀ D, d ≤ D → ∀ (cs ds : List AV) (xs ys : Array Value) (b : Bool) (w : World), PV c cs xs → PV c ds ys →
    eqCells ks (cs.drop off) (ds.drop off) = some b → (Op.eqFields D xs ys fs).run P w = .ok b w := by
  intro fs
  induction fs with
  | nil =>
    intro k off ks hk h _ D hD cs ds xs ys b w hx hy he
    have : ks = [] := by cases k <;> simp [fieldKinds] at h <;> exact h
    subst this
    have hb : b = true := by
      cases h1 : cs.drop off <;> cases h2 : ds.drop off <;> rw [h1, h2] at he <;> simp [eqCells] at he
      exact he
    subst hb
    simp [Op.eqFields]
  | cons f fs ihf =>
    intro k off ks hk h hall D hD cs ds xs ys b w hx hy he
    cases k with
    | zero => simp [fieldKinds] at h
    | succ k =>
      simp only [fieldKinds] at h
      split at h
      · simp at h
      · rename_i hname
        split at h
        case h_2 => simp at h
        rename_i k1 sz hk1 hsz
        split at h
        case isFalse => simp at h
        rename_i hc
        obtain ⟨hlen, hoff⟩ := hc
        split at h
        case h_2 => simp at h
        rename_i l hl
        injection h with h
        subst h
        obtain ⟨b1, b2, e1, e2, rfl⟩ := eqCells_append he
        have hne : f.name ≠ "_" := by simpa using hname
        obtain ⟨px, py, r1, r2, r3⟩ := hall k f.type k1 (by omega) hk1 D (by omega) cs ds xs ys off b1 w hx hy e1
        simp only [Op.eqFields, Sem.run_bind, Sem.run_ite]
        rw [if_pos hne, hoff, r1, Result.andThen_ok, r2, Result.andThen_ok, r3, Result.andThen_ok]
        cases b1
        · simp
        · simp only [Bool.not_true, Bool.false_eq_true, if_false, Bool.true_and]
          refine ihf k (off + sz) l (by omega) hl hall D hD cs ds xs ys b2 w hx hy ?_
          rw [← hlen]
          simpa [List.drop_drop] using e2

theorem eqCells_rep {k0 : List CK} : ∀ {n : Nat} {x y : List AV} {b : Bool}, eqCells (List.replicate n k0).flatten x y = some b →
    ∃ f : Nat → Bool, (∀ i, i < n → eqCells k0 ((x.drop (i * k0.length)).take k0.length) ((y.drop (i * k0.length)).take k0.length) = some (f i)) ∧ b = (List.range n).all f
  | 0, x, y, b, h => by
    refine ⟨fun _ => true, by simp, ?_⟩
    cases x <;> cases y <;> simp [eqCells] at h ⊢
    exact h
  | n + 1, x, y, b, h => by
    rw [List.replicate_succ, List.flatten_cons] at h
    obtain ⟨b1, b2, e1, e2, rfl⟩ := eqCells_append h
    obtain ⟨f, hf, rfl⟩ := eqCells_rep e2
    refine ⟨fun i => if i = 0 then b1 else f (i - 1), fun i hi => ?_, ?_⟩
    · cases i with
      | zero => simpa using e1
      | succ i =>
        have := hf i (by omega)
        simp only [List.drop_drop] at this
        simp only [Nat.succ_ne_zero, if_false, Nat.add_sub_cancel]
        rw [Nat.add_mul, Nat.one_mul, Nat.add_comm (i * k0.length)]
        exact this
    · rw [List.range_succ_eq_map]
      simp [List.all_map, Function.comp_def]

theorem eq_run : ∀ (d : Nat) (t : TypeId) (ks : List CK), flatKinds P d t = some ks → EqAt P c d t ks := by
  intro d
  induction d using Nat.strongRecOn with
  | _ d ih =>
  intro t ks h
  cases d with
  | zero => simp [flatKinds] at h
  | succ d =>
    intro D hD cs ds xs ys o b w hx hy he
    obtain ⟨D, rfl⟩ : ∃ D', D = D' + 1 := ⟨D - 1, by omega⟩
    simp only [flatKinds] at h
    split at h
    · rename_i hu
      injection h with h; subst h
      obtain ⟨u, v, h1, h2, h3⟩ := eqCells_one he
      obtain ⟨px, e1, v1⟩ := one_at hx h1
      obtain ⟨py, e2, v2⟩ := one_at hy h2
      refine ⟨px, py, part_scalar hu rfl e1 w, part_scalar hu rfl e2 w, ?_⟩
      cases u <;> cases v <;> simp [eqCell] at h3
      cases v1; cases v2
      rw [run_equalIn_bool' w D t _ _ hu, h3]
    · rename_i k hu
      injection h with h; subst h
      obtain ⟨u, v, h1, h2, h3⟩ := eqCells_one he
      obtain ⟨px, e1, v1⟩ := one_at hx h1
      obtain ⟨py, e2, v2⟩ := one_at hy h2
      refine ⟨px, py, part_scalar hu rfl e1 w, part_scalar hu rfl e2 w, ?_⟩
      cases u <;> cases v <;> simp [eqCell] at h3
      obtain ⟨⟨rfl, rfl⟩, h3⟩ := h3
      cases v1; cases v2
      rw [run_equalIn_int w D t _ _ _ _ hu, h3]
    · rename_i hu
      injection h with h; subst h
      obtain ⟨u, v, h1, h2, h3⟩ := eqCells_one he
      obtain ⟨px, e1, v1⟩ := one_at hx h1
      obtain ⟨py, e2, v2⟩ := one_at hy h2
      refine ⟨px, py, part_scalar hu rfl e1 w, part_scalar hu rfl e2 w, ?_⟩
      cases u <;> cases v <;> simp [eqCell] at h3
      cases v1; cases v2
      rw [run_equalIn_string w D t _ _ hu]
      rw [ByteArray.toList_eq, ByteArray.toList_eq, ← h3]
    · rename_i fs hu
      split at h
      · simp at h
      · rename_i hst
        split at h
        case h_2 => simp at h
        rename_i ks' hks
        split at h
        case isFalse => simp at h
        rename_i hsz
        injection h with h; subst h
        refine ⟨_, _, part_agg hu rfl hsz w, part_agg hu rfl hsz w, ?_⟩
        have hst' : P.stoodInHeld t = false := by simpa using hst
        rw [run_equalIn_struct w D t _ _ (by rw [fieldsOf_eq hu]; exact hu) hst', fieldsOf_eq hu]
        exact fields_run d fs.toList d 0 ks' (Nat.le_refl _) hks (fun k' t ks' hk' hf => ih k' (by omega) t ks' hf) D (by omega)
          _ _ _ _ b w (hx.sub o _) (hy.sub o _) (by simpa using he)
    · rename_i n e hu
      split at h
      case h_2 => simp at h
      rename_i k0 sz hk0 hsz0
      split at h
      case isFalse => simp at h
      rename_i hc
      obtain ⟨hlen, hsz⟩ := hc
      injection h with h; subst h
      have hl : (List.replicate n k0).flatten.length = n * sz := by simp [hlen]
      rw [hl] at he
      refine ⟨_, _, part_agg hu rfl hsz w, part_agg hu rfl hsz w, ?_⟩
      obtain ⟨f, hf, rfl⟩ := eqCells_rep he
      have harr := run_eqArr (P := P) w D e sz (xs.extract o (o + n * sz)) (ys.extract o (o + n * sz)) f (List.range n) (fun i hi => by
        have hin : i < n := List.mem_range.1 hi
        have hf' := hf i hin
        have := ih d (by omega) e k0 hk0 D (by omega) _ _ _ _ (i * sz) (f i) w (hx.sub o (n * sz)) (hy.sub o (n * sz)) (by rw [hlen] at hf' ⊢; exact hf')
        exact this)
      simp only [Op.equalIn, Sem.run_bind, run_under hu, Result.andThen_ok, run_szOf hsz0]
      rw [Std.Legacy.Range.forIn_eq_forIn_range']
      simp only [Std.Legacy.Range.size, Nat.sub_zero, Nat.add_sub_cancel, Nat.div_one, List.range_eq_range'] at harr ⊢
      rw [harr]
      cases (List.range' 0 n).all f <;> simp
    · simp at h
end
end Go.Am
