/- Equality of values without references: what the abstract machine says of it, the program's run does. Condition: flatKinds. -/
import Derived.Test.YteoiegapifoboaaAmI
namespace Go.Am
section
variable {P : Program} {c : Ctx}

def PV (c : Ctx) (cs : List AV) (vs : Array Value) : Prop := vs.size = cs.length ∧ ∀ i (hi : i < cs.length) (hj : i < vs.size), V c cs[i] vs[i]

theorem PV.sub {cs : List AV} {vs : Array Value} (h : PV c cs vs) (o n : Nat) : PV c ((cs.drop o).take n) (vs.extract o (o + n)) := by
  refine ⟨by simp [h.1]; omega, fun i hi hj => ?_⟩
  simp only [List.getElem_take, List.getElem_drop, Array.getElem_extract]
  simp at hi
  exact h.2 (o + i) (by omega) (by rw [h.1]; omega)

theorem eqCells_len : ∀ {ks : List CK} {x y : List AV} {b : Bool}, eqCells ks x y = some b → x.length = ks.length ∧ y.length = ks.length
  | [], [], [], _, _ => ⟨rfl, rfl⟩
  | k :: ks, u :: x, v :: y, b, h => by
    simp only [eqCells] at h
    split at h
    · rename_i a b' _ h2; have := eqCells_len h2; simp [this]
    · simp at h
  | [], _ :: _, _, _, h => by simp [eqCells] at h
  | [], [], _ :: _, _, h => by simp [eqCells] at h
  | _ :: _, [], _, _, h => by simp [eqCells] at h
  | _ :: _, _ :: _, [], _, h => by simp [eqCells] at h

theorem eqCells_append : ∀ {k1 k2 : List CK} {x y : List AV} {b : Bool}, eqCells (k1 ++ k2) x y = some b →
    ∃ b1 b2, eqCells k1 (x.take k1.length) (y.take k1.length) = some b1 ∧ eqCells k2 (x.drop k1.length) (y.drop k1.length) = some b2 ∧ b = (b1 && b2)
  | [], k2, x, y, b, h => ⟨true, b, by simp [eqCells], by simpa using h, by simp⟩
  | k :: k1, k2, x, y, b, h => by
    cases x with
    | nil => simp [eqCells] at h
    | cons u x =>
      cases y with
      | nil => simp [eqCells] at h
      | cons v y =>
        simp only [List.cons_append, eqCells] at h
        split at h
        · rename_i a b' h1 h2
          injection h with h
          obtain ⟨b1, b2, e1, e2, e3⟩ := eqCells_append h2
          refine ⟨a && b1, b2, ?_, by simpa using e2, by rw [← h, e3, Bool.and_assoc]⟩
          simp [eqCells, h1, e1]
        · simp at h

theorem eqCells_one {k : CK} {x y : List AV} {b : Bool} (h : eqCells [k] x y = some b) : ∃ u v, x = [u] ∧ y = [v] ∧ eqCell k u v = some b := by
  obtain ⟨hx, hy⟩ := eqCells_len h
  obtain ⟨u, rfl⟩ := List.length_eq_one_iff.1 hx
  obtain ⟨v, rfl⟩ := List.length_eq_one_iff.1 hy
  refine ⟨u, v, rfl, rfl, ?_⟩
  simp only [eqCells] at h
  split at h
  · rename_i a b' h1 h2; simp at h2; subst h2; rw [h1]; simpa using h
  · simp at h

theorem one_at {cs : List AV} {vs : Array Value} (h : PV c cs vs) {o : Nat} {u : AV} (hu : (cs.drop o).take 1 = [u]) : ∃ v, vs[o]? = some v ∧ V c u v := by
  have ho : o < cs.length := by
    have := congrArg List.length hu
    simp at this; omega
  have hu' : cs[o] = u := by
    have : ((cs.drop o).take 1)[0]? = some u := by rw [hu]; rfl
    simp [ho] at this
    exact this
  have hv : o < vs.size := by rw [h.1]; exact ho
  exact ⟨vs[o], Array.getElem?_eq_getElem hv, hu' ▸ h.2 o ho hv⟩

theorem fieldsOf_eq {t : TypeId} {fs : Array Field} (h : P.underlying t = some (.struct fs)) : P.fieldsOf t = fs := by
  simp [Program.fieldsOf, h]

theorem part_scalar {t : TypeId} {d : TypeDesc} (hu : P.underlying t = some d) (hd : (match d with | .struct _ | .array _ _ => true | _ => false) = false) {vs : Array Value} {o : Nat} {v : Value}
    (h : vs[o]? = some v) (w : World) : (Go.part t vs o).run P w = .ok v w := by
  have : agOf P t = some false := by
    unfold agOf; rw [hu]; cases d <;> simp at hd ⊢
  simp [Go.part, run_agOf this, h]

theorem part_agg {t : TypeId} {d : TypeDesc} {n : Nat} (hu : P.underlying t = some d) (hd : (match d with | .struct _ | .array _ _ => true | _ => false) = true) (hn : szOf P t = some n)
    {vs : Array Value} {o : Nat} (w : World) : (Go.part t vs o).run P w = .ok (.agg (vs.extract o (o + n))) w := by
  have : agOf P t = some true := by
    unfold agOf; rw [hu]; cases d <;> simp at hd ⊢
  simp [Go.part, run_agOf this, run_szOf hn]

/-- the array's loop, element by element -/
theorem run_eqArr (w : World) (d : Nat) (e : TypeId) (n : Nat) (xs ys : Array Value) (f : Nat → Bool) : ∀ (l : List Nat),
    (∀ i ∈ l, ∃ px py, (Go.part e xs (i * n)).run P w = .ok px w ∧ (Go.part e ys (i * n)).run P w = .ok py w ∧ (Op.equalIn d e px py).run P w = .ok (f i) w) →
    (forIn l ((none, ()) : Option Bool × Unit) (fun i _ => do
        let a ← Go.part e xs (i * n)
        let b ← Go.part e ys (i * n)
        let r ← Op.equalIn d e a b
        if (!r) = true then pure (ForInStep.done (some false, ())) else pure (ForInStep.yield (none, ()))) : Sem (Option Bool × Unit)).run P w =
      .ok (if l.all f then (none, ()) else (some false, ())) w
  | [], _ => by simp
  | i :: l, h => by
    obtain ⟨px, py, h1, h2, h3⟩ := h i (by simp)
    have ih := run_eqArr w d e n xs ys f l (fun j hj => h j (by simp [hj]))
    rw [List.forIn_cons]
    simp only [Sem.run_bind, h1, h2, h3, Result.andThen_ok, Sem.run_ite, Sem.run_pure]
    cases hf : f i
    · simp [hf]
    · simp only [Bool.not_true, Bool.false_eq_true, if_false, Result.andThen_ok, List.all_cons, hf, Bool.true_and]
      exact ih

end
end Go.Am
