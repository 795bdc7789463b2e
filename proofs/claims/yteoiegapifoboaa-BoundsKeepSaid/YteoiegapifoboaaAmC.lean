/- Each schedule of a region that draws its order lists all operations once, each behind those on which it hangs. Condition: the edges have a rank. -/
import Derived.Test.YteoiegapifoboaaAmB
namespace Go.Am
open Region

/-- the edges of the operations go down in a rank -/
def Ranked (m : Region.Mode) (ops : Array Oper) (rank : Nat → Nat) : Prop :=
  ∀ i o, ops[i]? = some o → ∀ e ∈ o.after.toList, binds m e = true → e.on < ops.size ∧ rank e.on < rank i

structure LinI (m : Region.Mode) (ops : Array Oper) (listed : Array Bool) (acc : List Nat) : Prop where
  size : listed.size = ops.size
  nodup : acc.Nodup
  small : ∀ i ∈ acc, i < ops.size
  mark : ∀ i, i < ops.size → listed.getD i true = decide (i ∈ acc)
  order : ∀ l1 i l2, acc = l2 ++ i :: l1 → ∀ o, ops[i]? = some o → ∀ e ∈ o.after.toList, binds m e = true → e.on ∈ l1

theorem ready_exists {m : Region.Mode} {ops : Array Oper} {rank : Nat → Nat} (hr : Ranked m ops rank) (acc : List Nat) :
    ∀ k i, rank i = k → i < ops.size → i ∉ acc →
      ∃ j o, j < ops.size ∧ j ∉ acc ∧ ops[j]? = some o ∧ ∀ e ∈ o.after.toList, binds m e = true → e.on ∈ acc := by
  intro k
  induction k using Nat.strongRecOn with
  | _ k ih =>
    intro i hk hi hn
    obtain ⟨o, ho⟩ : ∃ o, ops[i]? = some o := ⟨_, Array.getElem?_eq_getElem hi⟩
    by_cases h : ∀ e ∈ o.after.toList, binds m e = true → e.on ∈ acc
    · exact ⟨i, o, hi, hn, ho, h⟩
    · simp only [Classical.not_forall] at h
      obtain ⟨e, he, hb, hna⟩ := h
      obtain ⟨h1, h2⟩ := hr i o ho e he hb
      exact ih (rank e.on) (hk ▸ h2) e.on rfl h1 hna

theorem go_ok {m : Region.Mode} {ops : Array Oper} {rank : Nat → Nat} (hr : Ranked m ops rank) :
    ∀ fuel t listed acc, LinI m ops listed acc → fuel + acc.length = ops.size →
      ∃ listed' acc', linearise.go m ops fuel t listed acc = acc'.reverse ∧ LinI m ops listed' acc' ∧ acc'.length = ops.size := by
  intro fuel
  induction fuel with
  | zero => intro t listed acc hI hf; exact ⟨listed, acc, rfl, hI, by omega⟩
  | succ fuel ih =>
    intro t listed acc hI hf
    simp only [linearise.go]
    generalize hrs : (List.range ops.size).filter (fun i => !listed.getD i true && ((ops[i]?).map (·.after.all fun e => !binds m e || listed.getD e.on false)).getD false) = rs
    have hmem : ∀ i, i ∈ rs ↔ (i < ops.size ∧ i ∉ acc ∧ ∃ o, ops[i]? = some o ∧ ∀ e ∈ o.after.toList, binds m e = true → e.on ∈ acc) := by
      intro i
      rw [← hrs, List.mem_filter, List.mem_range]
      constructor
      · rintro ⟨hi, hp⟩
        obtain ⟨o, ho⟩ : ∃ o, ops[i]? = some o := ⟨_, Array.getElem?_eq_getElem hi⟩
        simp only [ho, Option.map_some, Option.getD_some, Bool.and_eq_true, Bool.not_eq_true', hI.mark i hi, decide_eq_false_iff_not] at hp
        refine ⟨hi, hp.1, o, ho, fun e he hb => ?_⟩
        have h2 := hp.2
        rw [← Array.all_toList, List.all_eq_true] at h2
        have h3 := h2 e he
        simp only [hb, Bool.not_true, Bool.false_or] at h3
        have hon := (hr i o ho e he hb).1
        have h4 := hI.mark e.on hon
        have h5 : listed.getD e.on true = listed.getD e.on false := by
          have : e.on < listed.size := by rw [hI.size]; exact hon
          simp [Array.getD, this]
        rw [h5, h3] at h4
        simpa using h4.symm
      · rintro ⟨hi, hn, o, ho, hall⟩
        refine ⟨hi, ?_⟩
        simp only [ho, Option.map_some, Option.getD_some, Bool.and_eq_true, Bool.not_eq_true', hI.mark i hi, decide_eq_false_iff_not]
        refine ⟨hn, ?_⟩
        rw [← Array.all_toList, List.all_eq_true]
        intro e he
        by_cases hb : binds m e = true
        · have hon := (hr i o ho e he hb).1
          have h4 := hI.mark e.on hon
          have h5 : listed.getD e.on true = listed.getD e.on false := by
            have : e.on < listed.size := by rw [hI.size]; exact hon
            simp [Array.getD, this]
          rw [h5] at h4
          simp [hb, h4, hall e he hb]
        · simp [hb]
    have hne : rs ≠ [] := by
      intro h0
      have : ∃ i, i < ops.size ∧ i ∉ acc := by
        refine Classical.byContradiction fun hcon => ?_
        have hall : ∀ i, i < ops.size → i ∈ acc := fun i hi => Classical.byContradiction fun hn => hcon ⟨i, hi, hn⟩
        have hsub : (List.range ops.size) ⊆ acc := fun i hi => hall i (List.mem_range.1 hi)
        have := List.Nodup.length_le_of_subset (List.nodup_range (n := ops.size)) hsub
        simp at this; omega
      obtain ⟨i, hi, hn⟩ := this
      obtain ⟨j, o, hj, hjn, ho, hall⟩ := ready_exists hr acc _ i rfl hi hn
      have := (hmem j).2 ⟨hj, hjn, o, ho, hall⟩
      rw [h0] at this; simp at this
    have hlen : 0 < rs.length := List.length_pos_iff.2 hne
    have hlt : t % rs.length < rs.length := Nat.mod_lt _ hlen
    rw [List.getElem?_eq_getElem hlt]
    generalize hi : rs[t % rs.length] = i
    have hir : i ∈ rs := hi ▸ List.getElem_mem hlt
    obtain ⟨h1, h2, o, ho, hall⟩ := (hmem i).1 hir
    refine ih _ _ _ ⟨?_, ?_, ?_, ?_, ?_⟩ (by simp; omega)
    · simp [hI.size]
    · exact List.nodup_cons.2 ⟨h2, hI.nodup⟩
    · intro j hj
      rcases List.mem_cons.1 hj with rfl | hj
      · exact h1
      · exact hI.small j hj
    · intro j hj
      by_cases hji : j = i
      · subst hji
        simp [Array.getD, hI.size, hj]
      · have := hI.mark j hj
        have hij : ¬ i = j := fun h => hji h.symm
        rw [Array.getD_eq_getD_getElem?] at this ⊢
        rw [Array.getElem?_setIfInBounds, if_neg hij, this]
        simp [hji]
    · intro l1 j l2 hacc o' ho' e he hb
      cases l2 with
      | nil =>
        simp only [List.nil_append, List.cons.injEq] at hacc
        obtain ⟨rfl, rfl⟩ := hacc
        rw [ho] at ho'; injection ho' with ho'; subst ho'
        exact hall e he hb
      | cons x l2 =>
        simp only [List.cons_append, List.cons.injEq] at hacc
        exact hI.order l1 j l2 hacc.2 o' ho' e he hb

theorem lin_ok {m : Region.Mode} {ops : Array Oper} {rank : Nat → Nat} (hr : Ranked m ops rank) (t : Nat) :
    (linearise m ops t).Nodup ∧ (∀ i, i ∈ linearise m ops t ↔ i < ops.size) ∧
      ∀ l1 i l2, linearise m ops t = l1 ++ i :: l2 → ∀ o, ops[i]? = some o → ∀ e ∈ o.after.toList, binds m e = true → e.on ∈ l1 := by
  obtain ⟨listed', acc', h1, hI, hlen⟩ := go_ok hr ops.size t (Array.replicate ops.size false) []
    ⟨by simp, List.nodup_nil, by simp, by intro i hi; simp [Array.getD, hi], by intro l1 i l2 h; simp at h⟩ (by simp)
  unfold linearise
  rw [h1]
  refine ⟨List.nodup_iff_pairwise_ne.2 (List.pairwise_reverse.2 ((List.nodup_iff_pairwise_ne.1 hI.nodup).imp fun h => h.symm)), fun i => ?_, fun l1 i l2 h o ho e he hb => ?_⟩
  · rw [List.mem_reverse]
    refine ⟨hI.small i, fun hi => ?_⟩
    refine Classical.byContradiction fun hn => ?_
    have h2 : (i :: acc').Nodup := List.nodup_cons.2 ⟨hn, hI.nodup⟩
    have hsub : (i :: acc') ⊆ List.range ops.size := by
      intro j hj
      rcases List.mem_cons.1 hj with rfl | hj
      · exact List.mem_range.2 hi
      · exact List.mem_range.2 (hI.small j hj)
    have := List.Nodup.length_le_of_subset h2 hsub
    simp at this; omega
  · have : acc' = l2.reverse ++ i :: l1.reverse := by
      have := congrArg List.reverse h
      simpa using this
    have := hI.order _ _ _ this o ho e he hb
    simpa using this

end Go.Am
