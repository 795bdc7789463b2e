/- A region that draws its order comes to one state, whatever is drawn. Condition: drawOk. -/
import Derived.Test.YteoiegapifoboaaAmD
namespace Go.Am
open Region

theorem ranked_of {m : Region.Mode} {ops : Array Oper} {rank : Nat → Nat} (h : rankOk m ops rank = true) : Ranked m ops rank := by
  intro i o ho e he hb
  have hi : i < ops.size := by
    rcases Nat.lt_or_ge i ops.size with h | h
    · exact h
    · simp [Array.getElem?_eq_none h] at ho
  have h1 := List.all_eq_true.1 h i (List.mem_range.2 hi)
  simp only [ho] at h1
  have h2 := List.all_eq_true.1 h1 e he
  simpa [hb] using h2

theorem binds_any {m : Region.Mode} {e : Edge} (h : binds .any e = true) : binds m e = true := by
  unfold binds at h ⊢
  cases hg : e.ground <;> simp [hg] at h ⊢

inductive Anc (ops : Array Oper) : Nat → Nat → Prop where
  | edge {j : Nat} {o : Oper} {e : Edge} (ho : ops[j]? = some o) (he : e ∈ o.after.toList) (hb : binds .any e = true) : Anc ops e.on j
  | step {i j : Nat} {o : Oper} {e : Edge} (ho : ops[j]? = some o) (he : e ∈ o.after.toList) (hb : binds .any e = true) (h : Anc ops i e.on) : Anc ops i j

theorem inner_bits (acc : Array Nat) (k : Nat) : ∀ (l : List Edge) (s : Nat),
    (l.foldl (fun s e => if binds .any e then s ||| 2 ^ e.on ||| acc.getD e.on 0 else s) s).testBit k = true →
      s.testBit k = true ∨ ∃ e ∈ l, binds .any e = true ∧ (e.on = k ∨ (acc.getD e.on 0).testBit k = true) := by
  intro l
  induction l with
  | nil => intro s h; exact .inl h
  | cons e l ih =>
    intro s h
    rw [List.foldl_cons] at h
    rcases ih _ h with h | ⟨e', he', h⟩
    · by_cases hb : binds .any e = true
      · simp only [hb, if_true, Nat.testBit_or, Bool.or_eq_true, Nat.testBit_two_pow, decide_eq_true_eq] at h
        rcases h with (h | h) | h
        · exact .inl h
        · exact .inr ⟨e, by simp, hb, .inl h⟩
        · exact .inr ⟨e, by simp, hb, .inr h⟩
      · simp only [hb, if_false, Bool.false_eq_true] at h
        exact .inl h
    · exact .inr ⟨e', by simp [he'], h⟩

theorem before_sound (ops : Array Oper) : (before ops).size = ops.size ∧ ∀ j k, ((before ops).getD j 0).testBit k = true → Anc ops k j := by
  unfold before
  have key := Array.foldl_induction (as := ops) (motive := fun i acc => acc.size = i ∧ ∀ j k, (acc.getD j 0).testBit k = true → Anc ops k j)
    (init := (#[] : Array Nat)) (f := fun acc o => acc.push (o.after.foldl (fun s e => if binds .any e then s ||| 2 ^ e.on ||| acc.getD e.on 0 else s) 0))
    ⟨rfl, by intro j k h; simp at h⟩ (by
      rintro ⟨i, hi⟩ acc ⟨hs, hacc⟩
      refine ⟨by simp [hs], ?_⟩
      intro j k h
      rw [Array.getD_eq_getD_getElem?, Array.getElem?_push] at h
      by_cases hj2 : j = acc.size
      · rw [if_pos hj2, Option.getD_some, ← Array.foldl_toList] at h
        have ho : ops[j]? = some ops[i] := by simp [hj2, hs, hi]
        rcases inner_bits acc k _ _ h with h | ⟨e, he, hb, h⟩
        · simp at h
        · rcases h with rfl | h
          · exact .edge ho he hb
          · exact .step ho he hb (hacc _ _ h)
      · rw [if_neg hj2, ← Array.getD_eq_getD_getElem?] at h
        exact hacc j k h)
  exact key


theorem anc_before {m : Region.Mode} {ops : Array Oper} {l : List Nat}
    (hl : ∀ l1 i l2, l = l1 ++ i :: l2 → ∀ o, ops[i]? = some o → ∀ e ∈ o.after.toList, binds m e = true → e.on ∈ l1) {i j : Nat} (h : Anc ops i j) :
    ∀ l1 l2, l = l1 ++ j :: l2 → i ∈ l1 := by
  induction h with
  | @edge j o e ho he hb => intro l1 l2 h; exact hl l1 _ l2 h _ ho _ he (binds_any hb)
  | step ho he hb _ ih =>
    intro l1 l2 h
    have h1 := hl l1 _ l2 h _ ho _ he (binds_any hb)
    obtain ⟨a, b, rfl⟩ := List.append_of_mem h1
    have := ih a _ (by rw [h, List.append_assoc, List.cons_append])
    simp [this]

theorem pick_range (rops : List ROp) : (List.range rops.length).map (fun i => rops.getD i default) = rops := by
  apply List.ext_getElem
  · simp
  · intro i h1 h2
    simp at h1
    simp [List.getD, h1]

theorem lin_any (G : Nat → List AV) (cI : CI) {m : Region.Mode} {ops : Array Oper} {rops : List ROp} {rank : Nat → Nat} (hr : Ranked m ops rank)
    (hp : pairsOk (before ops).toList rops = true) (hlen : rops.length = ops.size) (τ : Nat) {t : List AV} {H : List Obj} {r}
    (h : runOps G noHp cI noH rops t H = some r) :
    runOps G noHp cI noH ((linearise m ops τ).map fun i => rops.getD i default) t H = some r := by
  obtain ⟨hnd, hmem, hord⟩ := lin_ok hr τ
  refine reorder G cI (fun i => rops.getD i default) (linearise m ops τ) (List.range rops.length) t H ?_ ?_ ?_ (by rw [pick_range]; exact h)
  · refine (List.perm_ext_iff_of_nodup List.nodup_range hnd).2 fun i => ?_
    rw [hmem, List.mem_range, hlen]
  · exact List.pairwise_lt_range
  · rw [List.pairwise_iff_getElem]
    intro i j hi hj hij hlt
    generalize ha : (linearise m ops τ)[i] = a at hlt ⊢
    generalize hb : (linearise m ops τ)[j] = b at hlt ⊢
    have hasz : a < rops.length := by rw [hlen]; exact (hmem a).1 (ha ▸ List.getElem_mem hi)
    have h1 := List.all_eq_true.1 (List.all_eq_true.1 hp a (List.mem_range.2 hasz)) b (List.mem_range.2 hlt)
    have hbsz : b < rops.length := by omega
    rw [List.getElem?_eq_getElem hasz, List.getElem?_eq_getElem hbsz] at h1
    simp only [Bool.or_eq_true] at h1
    rcases h1 with h1 | h1
    · exfalso
      have hanc := (before_sound ops).2 a b (by simpa [Array.getD_eq_getD_getElem?, List.getD] using h1)
      have hsplit : linearise m ops τ = (linearise m ops τ).take i ++ a :: (linearise m ops τ).drop (i + 1) := by
        rw [← ha, List.getElem_cons_drop, List.take_append_drop]
      have h2 := anc_before hord hanc _ _ hsplit
      obtain ⟨k, hk, hke⟩ := List.getElem_of_mem h2
      rw [List.getElem_take] at hke
      have hk' : k < i := by simp at hk; omega
      have := (List.pairwise_iff_getElem.1 (List.nodup_iff_pairwise_ne.1 hnd)) k j (by omega) hj (by omega)
      exact this (hke.trans hb.symm)
    · simpa [List.getD, List.getElem?_eq_getElem hasz, List.getElem?_eq_getElem hbsz] using h1

/-- whatever is drawn, the abstract machine comes to the same state -/
theorem draw_any (G : Nat → List AV) (cI : CI) {ops : Array Oper} {rops : List ROp} (hd : drawOk ops rops = true) (hlen : rops.length = ops.size)
    (mixed : Bool) (τ : Nat) {t : List AV} {H : List Obj} {r} (h : runOps G noHp cI noH rops t H = some r) :
    runOps G noHp cI noH ((schedule mixed ops τ).map fun i => rops.getD i default) t H = some r := by
  simp only [drawOk, Bool.and_eq_true] at hd
  obtain ⟨⟨⟨h1, h2⟩, h3⟩, h4⟩ := hd
  unfold schedule
  split
  · exact lin_any G cI (ranked_of h1) h4 hlen _ h
  · split
    · exact lin_any G cI (ranked_of h2) h4 hlen _ h
    · exact lin_any G cI (ranked_of h3) h4 hlen _ h

end Go.Am
