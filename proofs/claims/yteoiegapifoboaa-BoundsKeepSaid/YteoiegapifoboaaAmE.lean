/- A region that draws its order comes to one state, whatever is drawn. Condition: drawOk. -/
import Derived.Test.YteoiegapifoboaaAmD
namespace Go.Am
open Region

theorem ranked_of {m : Region.Mode} {ops : Array Oper} {rank : Nat → Nat} (h : rankOk m ops rank = true) : Ranked m ops rank := by
  intro i o ho e he hb
  have hi : i < ops.size := by
    rcases Nat.lt_or_ge i ops.size with h | h
    · exact h
    · simp [Array.getElem?_eq_none h] at ho
  have h1 := List.all_eq_true.1 h i (List.mem_range.2 hi)
  simp only [ho] at h1
  have h2 := List.all_eq_true.1 h1 e he
  simpa [hb] using h2

theorem binds_any {m : Region.Mode} {e : Edge} (h : binds .any e = true) : binds m e = true := by
  unfold binds at h ⊢
  cases hg : e.ground <;> simp [hg] at h ⊢

inductive Anc (ops : Array Oper) : Nat → Nat → Prop where
  | edge {j : Nat} {o : Oper} {e : Edge} (ho : ops[j]? = some o) (he : e ∈ o.after.toList) (hb : binds .any e = true) : Anc ops e.on j
  | step {i j : Nat} {o : Oper} {e : Edge} (ho : ops[j]? = some o) (he : e ∈ o.after.toList) (hb : binds .any e = true) (h : Anc ops i e.on) : Anc ops i j

theorem inner_bits (acc : Array Nat) (k : Nat) : ∀ (l : List Edge) (s : Nat),
    (l.foldl (fun s e => if binds .any e then s ||| 2 ^ e.on ||| acc.getD e.on 0 else s) s).testBit k = true →
      s.testBit k = true ∨ ∃ e ∈ l, binds .any e = true ∧ (e.on = k ∨ (acc.getD e.on 0).testBit k = true) := by
  intro l
  induction l with
  | nil => intro s h; exact .inl h
  | cons e l ih =>
    intro s h
    rw [List.foldl_cons] at h
    rcases ih _ h with h | ⟨e', he', h⟩
    · by_cases hb : binds .any e = true
      · simp only [hb, if_true, Nat.testBit_or, Bool.or_eq_true, Nat.testBit_two_pow, decide_eq_true_eq] at h
        rcases h with (h | h) | h
        · exact .inl h
        · exact .inr ⟨e, by simp, hb, .inl h⟩
        · exact .inr ⟨e, by simp, hb, .inr h⟩
      · simp only [hb, if_false, Bool.false_eq_true] at h
        exact .inl h
    · exact .inr ⟨e', by simp [he'], h⟩

theorem before_sound (ops : Array Oper) : (before ops).size = ops.size ∧ ∀ j k, ((before ops).getD j 0).testBit k = true → Anc ops k j := by
  unfold before
  have key := Array.foldl_induction (as := ops) (motive := fun i acc => acc.size = i ∧ ∀ j k, (acc.getD j 0).testBit k = true → Anc ops k j)
    (init := (#[] : Array Nat)) (f := fun acc o => acc.push (o.after.foldl (fun s e => if binds .any e then s ||| 2 ^ e.on ||| acc.getD e.on 0 else s) 0))
    ⟨rfl, by intro j k h; simp at h⟩ (by
      rintro ⟨i, hi⟩ acc ⟨hs, hacc⟩
      refine ⟨by simp [hs], ?_⟩
      intro j k h
      rw [Array.getD_eq_getD_getElem?, Array.getElem?_push] at h
      by_cases hj2 : j = acc.size
      · rw [if_pos hj2, Option.getD_some, ← Array.foldl_toList] at h
        have ho : ops[j]? = some ops[i] := by simp [hj2, hs, hi]
        rcases inner_bits acc k _ _ h with h | ⟨e, he, hb, h⟩
        · simp at h
        · rcases h with rfl | h
          · exact .edge ho he hb
          · exact .step ho he hb (hacc _ _ h)
      · rw [if_neg hj2, ← Array.getD_eq_getD_getElem?] at h
        exact hacc j k h)
  exact key


theorem anc_before {m : Region.Mode} {ops : Array Oper} {l : List Nat}
    (hl : ∀ l1 i l2, l = l1 ++ i :: l2 → ∀ o, ops[i]? = some o → ∀ e ∈ o.after.toList, binds m e = true → e.on ∈ l1) {i j : Nat} (h : Anc ops i j) :
    ∀ l1 l2, l = l1 ++ j :: l2 → i ∈ l1 := by
  induction h with
  | @edge j o e ho he hb => intro l1 l2 h; exact hl l1 _ l2 h _ ho _ he (binds_any hb)
  | step ho he hb _ ih =>
    intro l1 l2 h
    have h1 := hl l1 _ l2 h _ ho _ he (binds_any hb)
    obtain ⟨a, b, rfl⟩ := List.append_of_mem h1
    have := ih a _ (by rw [h, List.append_assoc, List.cons_append])
    simp [this]

theorem pick_range (rops : List ROp) : (List.range rops.length).map (fun i => rops.getD i default) = rops := by
  apply List.ext_getElem
  · simp
  · intro i h1 h2
    simp at h1
    simp [List.getD, h1]

/-- an operation that hangs on a later one is not run ahead of it -/
theorem lin_pair {m : Region.Mode} {ops : Array Oper} {rank : Nat → Nat} (hr : Ranked m ops rank) (τ : Nat) :
    (linearise m ops τ).Pairwise (fun a b => ((before ops).toList.getD a 0).testBit b = false) := by
  obtain ⟨hnd, hmem, hord⟩ := lin_ok hr τ
  rw [List.pairwise_iff_getElem]
  intro i j hi hj hij
  generalize ha : (linearise m ops τ)[i] = a
  generalize hb : (linearise m ops τ)[j] = b
  cases h1 : ((before ops).toList.getD a 0).testBit b with
  | false => rfl
  | true =>
    exfalso
    have hanc := (before_sound ops).2 a b (by simpa [Array.getD_eq_getD_getElem?, List.getD] using h1)
    have hsplit : linearise m ops τ = (linearise m ops τ).take i ++ a :: (linearise m ops τ).drop (i + 1) := by
      rw [← ha, List.getElem_cons_drop, List.take_append_drop]
    have h2 := anc_before hord hanc _ _ hsplit
    obtain ⟨k, hk, hke⟩ := List.getElem_of_mem h2
    rw [List.getElem_take] at hke
    have hk' : k < i := by simp at hk; omega
    have := (List.pairwise_iff_getElem.1 (List.nodup_iff_pairwise_ne.1 hnd)) k j (by omega) hj (by omega)
    exact this (hke.trans hb.symm)

/-- orders of n operations -/
structure Ord (ops : Array Oper) (n : Nat) (π : List Nat) : Prop where
  nodup : π.Nodup
  mem : ∀ i, i ∈ π ↔ i < n
  pair : π.Pairwise (fun a b => ((before ops).toList.getD a 0).testBit b = false)

theorem lin_ord {m : Region.Mode} {ops : Array Oper} {rank : Nat → Nat} (hr : Ranked m ops rank) (τ : Nat) : Ord ops ops.size (linearise m ops τ) :=
  ⟨(lin_ok hr τ).1, (lin_ok hr τ).2.1, lin_pair hr τ⟩

/-- an operation that hangs on all others is run last -/
theorem Ord.last {ops : Array Oper} {n : Nat} {π : List Nat} (h : Ord ops (n + 1) π) (hb : ∀ i, i < n → ((before ops).toList.getD n 0).testBit i = true) : ∃ π', π = π' ++ [n] ∧ Ord ops n π' := by
  obtain ⟨l1, l2, rfl⟩ := List.append_of_mem ((h.mem n).2 (by omega))
  have hl2 : l2 = [] := by
    cases l2 with
    | nil => rfl
    | cons x l2 =>
      exfalso
      have h1 := (List.pairwise_cons.1 (List.pairwise_append.1 h.pair).2.1).1 x (by simp)
      have h2 : x < n + 1 := (h.mem x).1 (by simp)
      have h3 : n ≠ x := (List.pairwise_cons.1 (List.pairwise_append.1 (List.nodup_iff_pairwise_ne.1 h.nodup)).2.1).1 x (by simp)
      rw [hb x (by omega)] at h1
      simp at h1
  subst hl2
  refine ⟨l1, rfl, (List.nodup_append.1 h.nodup).1, fun i => ?_, (List.pairwise_append.1 h.pair).1⟩
  have h1 := h.mem i
  have h2 : ∀ a ∈ l1, a ≠ n := fun a ha => (List.pairwise_append.1 (List.nodup_iff_pairwise_ne.1 h.nodup)).2.2 a ha n (by simp)
  constructor
  · intro hi
    have := h1.1 (by simp [hi])
    have := h2 i hi
    omega
  · intro hi
    have := h1.2 (by omega)
    simp only [List.mem_append, List.mem_singleton] at this
    rcases this with e | e
    · exact e
    · omega

theorem ord_any (G : Nat → List AV) (cI : CI) {ops : Array Oper} {rops : List ROp} {π : List Nat} (ho : Ord ops rops.length π)
    (hp : pairsOk (before ops).toList rops = true) {t : List AV} {H : List Obj} {r} (h : runOps G noHp cI noH rops t H = some r) :
    runOps G noHp cI noH (π.map fun i => rops.getD i default) t H = some r := by
  refine reorder G cI (fun i => rops.getD i default) π (List.range rops.length) t H ?_ ?_ ?_ (by rw [pick_range]; exact h)
  · refine (List.perm_ext_iff_of_nodup List.nodup_range ho.nodup).2 fun i => ?_
    rw [ho.mem, List.mem_range]
  · exact List.pairwise_lt_range
  · refine ho.pair.imp_of_mem fun {a b} ha hb hab hlt => ?_
    have hasz : a < rops.length := (ho.mem a).1 ha
    have h1 := List.all_eq_true.1 (List.all_eq_true.1 hp a (List.mem_range.2 hasz)) b (List.mem_range.2 hlt)
    have hbsz : b < rops.length := by omega
    rw [List.getElem?_eq_getElem hasz, List.getElem?_eq_getElem hbsz, hab] at h1
    simpa [List.getD, List.getElem?_eq_getElem hasz, List.getElem?_eq_getElem hbsz] using h1

/-- whatever is drawn, it is an order -/
theorem sched_ord {ops : Array Oper} (h1 : rankOk .any ops (fun i => i) = true) (h2 : rankOk .text ops (fun i => i) = true)
    (h3 : (let l := Region.linearise .gc ops 0; rankOk .gc ops (fun i => posIn i l)) = true) (mixed : Bool) (τ : Nat) : Ord ops ops.size (schedule mixed ops τ) := by
  unfold schedule
  split
  · exact lin_ord (ranked_of h1) _
  · split
    · exact lin_ord (ranked_of h2) _
    · exact lin_ord (ranked_of h3) _

theorem drawOk_ord {ops : Array Oper} {rops : List ROp} (hd : drawOk ops rops = true) (mixed : Bool) (τ : Nat) : Ord ops ops.size (schedule mixed ops τ) := by
  simp only [drawOk, Bool.and_eq_true] at hd
  obtain ⟨⟨⟨h1, h2⟩, h3⟩, _⟩ := hd
  exact sched_ord h1 h2 h3 mixed τ

theorem drawOk_pairs {ops : Array Oper} {rops : List ROp} (hd : drawOk ops rops = true) : pairsOk (before ops).toList rops = true := by
  simp only [drawOk, Bool.and_eq_true] at hd
  exact hd.2

end Go.Am
