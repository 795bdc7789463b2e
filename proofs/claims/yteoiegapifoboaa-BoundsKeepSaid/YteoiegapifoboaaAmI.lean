/- Operations that read, continued: addresses, indexes, fields, built values, comparisons. Conditions: the relation of the values and of the heap. -/
import Derived.Test.YteoiegapifoboaaAmH
namespace Go.Am
section
variable {P : Program} {c : Ctx}

theorem pro_drop {cs : List AV} {a : Addr} {n : Nat} (h : V c (.pro cs) (.pointer (some a))) (hn : n ≤ cs.length) : V c (.pro (cs.drop n)) (.pointer (some (a.add n))) := by
  cases h with
  | pro _ _ vs h1 h3 h4 =>
    by_cases hc : cs.drop n = []
    · rw [hc]; exact .pro [] _ (fun _ => undef) (by simp) (by simp) (by intro j hj; simp at hj)
    · have hne : cs ≠ [] := by rintro rfl; simp at hc
      obtain ⟨hs, hO⟩ := h1 hne
      rw [add_addr a n hs]
      refine .pro _ _ (fun j => vs (n + j)) (fun _ => ⟨rfl, hO⟩) (fun j hj => ?_) (fun j hj => ?_)
      · simp at hj
        have := h3 (n + j) (by omega)
        rw [← this]; congr 2; simp; omega
      · simp only [List.getElem_drop]; exact h4 _ _

theorem fad_addr {off : Nat} {x r : AV} {xv : Value} (hx : V c x xv) (h : fad off x = some r) : ∃ a, xv = .pointer (some a) ∧ V c r (.pointer (some (a.add off))) := by
  unfold fad at h
  split at h
  · rename_i cs
    cases hx with
    | pro _ a vs h1 h3 h4 =>
      split at h
      · rename_i hle
        injection h with h; subst h
        exact ⟨a, rfl, pro_drop (.pro cs a vs h1 h3 h4) hle⟩
      · simp at h
  · rename_i id ext e o
    injection h with h; subst h
    cases hx with
    | pown _ _ _ _ _ hp =>
      obtain ⟨hlt, a, rfl, hs, hp⟩ := hp
      refine ⟨a, rfl, .pown _ _ _ _ _ ⟨hlt, _, rfl, by rw [add_addr _ _ hs], fun nl sz es hid => ⟨(hp _ _ _ hid).1, fun he => ?_⟩⟩⟩
      rw [(hp _ _ _ hid).2 he, add_eq, Nat.add_assoc]
  · simp at h

theorem fad_V {s : TypeId} {fs : Array Field} {f : Nat} {fd : Field} {n : Nat} (hs : P.underlying s = some (.struct fs)) (hf : fs[f]? = some fd) (hsz : szOf P fd.type = some (n + 1))
    {x r : AV} {xv : Value} (hx : V c x xv) (h : fad fd.offset x = some r) : ∃ v, (Instr.fieldAt s xv f).run P c.w = .ok v c.w ∧ V c r v := by
  obtain ⟨a, rfl, hV⟩ := fad_addr hx h
  refine ⟨_, ?_, hV⟩
  simp only [Instr.fieldAt, Sem.run_bind, run_under hs, Result.andThen_ok, hf, Instr.sureAddr, Sem.run_pure, fieldPlace, run_szOf hsz, Nat.add_eq_zero_iff, Nat.one_ne_zero, and_false, if_false]

theorem iadA_V {t e : TypeId} {len sz : Nat} (ht : P.underlying t = some (.array len e)) (hsz : szOf P e = some sz) {x i r : AV} {xv iv : Value} (hx : V c x xv) (hi : V c i iv)
    (h : iadA len sz x i = some r) : ∃ v, (Instr.indexAt t xv iv).run P c.w = .ok v c.w ∧ V c r v := by
  unfold iadA at h
  split at h
  · rename_i k n
    cases hi
    split at h
    · rename_i hb
      obtain ⟨a, rfl, hV⟩ := fad_addr hx h
      refine ⟨_, ?_, hV⟩
      simp [Instr.indexAt, asIntOf, run_under ht, Instr.sureAddr, hb.1, hb.2, run_szOf hsz]
    · simp at h
  · simp at h

theorem iadS_V {t e : TypeId} {sz : Nat} (ht : P.underlying t = some (.slice e)) (hsz : szOf P e = some sz) {x i r : AV} {xv iv : Value} (hx : V c x xv) (hi : V c i iv)
    (h : iadS c.H sz x i = some r) : ∃ v, (Instr.indexAt t xv iv).run P c.w = .ok v c.w ∧ V c r v := by
  have hrun : ∀ (a : Addr) (len cap : Nat) (k : IntKind) (n : Int), 0 ≤ n → n < (len : Int) →
      (Instr.indexAt t (.slice (some a) len cap) (.int k n)).run P c.w = .ok (.pointer (some (a.add (n.toNat * sz)))) c.w := by
    intro a len cap k n h0 h1
    simp [Instr.indexAt, asIntOf, run_under ht, h0, h1, run_szOf hsz]
  unfold iadS at h
  split at h
  · rename_i es k n
    cases hi
    cases hx with
    | ro0 =>
      split at h
      case isFalse => simp at h
      simp at h
    | ro _ a cap sz' vs hcap h1 h2 h3 h4 =>
      split at h
      case isFalse => simp at h
      rename_i h0
      split at h
      case h_2 => simp at h
      rename_i cs hcs
      obtain ⟨hn, rfl⟩ := List.getElem?_eq_some_iff.1 hcs
      split at h
      case isFalse => simp at h
      rename_i hlen
      injection h with h; subst h
      have hs' : sz' = sz := by rw [← h2 _ hn]; exact hlen
      subst hs'
      refine ⟨_, hrun a _ _ _ _ h0 (by omega), ?_⟩
      by_cases hz : sz' = 0
      · refine .pro _ _ (fun _ => undef) (fun hne => ?_) (fun j hj => ?_) (fun j hj => ?_)
        · exfalso; rw [hz] at hlen; exact hne (List.length_eq_zero_iff.1 hlen)
        · omega
        · omega
      · obtain ⟨hsp, hO⟩ := h1 (by intro e; simp [e] at hn) (by omega)
        rw [add_addr a _ hsp]
        exact .pro _ _ (fun j => vs n.toNat j) (fun _ => ⟨rfl, hO⟩) (fun j hj => h3 _ _ hn hj) (fun j hj => h4 _ _ hn hj)
  · rename_i id ext off len k n
    cases hi
    split at h
    case h_2 => simp at h
    rename_i sz' es hl
    obtain ⟨nl, hid⟩ := getLive_some hl
    split at h
    case isFalse => simp at h
    rename_i hc
    obtain ⟨hext, rfl, h0, h1⟩ := hc
    injection h with h; subst h
    cases hx with
    | own _ _ _ _ _ how =>
      obtain ⟨hlt, _, how⟩ := how
      obtain ⟨hle, how⟩ := how _ _ _ hid
      obtain ⟨hol, how⟩ := how hext
      rcases how with ⟨hnl, hes, rfl⟩ | ⟨hnn, cap, rfl, hcap⟩
      · subst hes; simp at hext; omega
      · refine ⟨_, hrun _ _ _ _ _ h0 h1, ?_⟩
        rw [add_eq]
        refine .pown _ _ _ _ _ ⟨hlt, _, rfl, rfl, fun nl' sz'' es' hid' => ?_⟩
        rw [hid] at hid'
        injection hid' with hid'
        injection hid' with a b d
        subst a; subst b; subst d
        exact ⟨hle, fun _ => by rw [Nat.add_mul, Nat.add_zero]⟩
  · rename_i id ext e' o sz' len k n
    cases hi
    split at h
    case isFalse => simp at h
    rename_i hc
    obtain ⟨rfl, h0, h1⟩ := hc
    injection h with h; subst h
    cases hx with
    | arr _ _ _ _ _ _ _ ha =>
      obtain ⟨hlt, a, ⟨cap, rfl, _⟩, hsp, ha⟩ := ha
      refine ⟨_, hrun _ _ _ _ _ h0 h1, ?_⟩
      rw [add_addr _ _ hsp]
      refine .pown _ _ _ _ _ ⟨hlt, _, rfl, rfl, fun nl sz es hid => ⟨(ha _ _ _ hid).1, fun he => ?_⟩⟩
      have := (ha _ _ _ hid).2 he
      rw [this, Nat.add_assoc]
  · simp at h

theorem idxS_V {t : TypeId} (ht : P.underlying t = some .string) {x i r : AV} {xv iv : Value} (hx : V c x xv) (hi : V c i iv)
    (h : idxS x i = some r) : ∃ v, (Instr.index t xv iv).run P c.w = .ok v c.w ∧ V c r v := by
  unfold idxS at h
  split at h
  · rename_i s k j
    cases hi; cases hx
    split at h
    case isFalse => simp at h
    rename_i h0
    split at h
    case h_2 => simp at h
    rename_i b hb
    injection h with h; subst h
    refine ⟨_, ?_, V.int _ _⟩
    have : (⟨s.toArray⟩ : ByteArray)[j.toNat]? = some b := by
      obtain ⟨hlt, rfl⟩ := List.getElem?_eq_some_iff.1 hb
      have h2 : j.toNat < (⟨s.toArray⟩ : ByteArray).size := by simpa [ByteArray.size] using hlt
      rw [getElem?_pos (⟨s.toArray⟩ : ByteArray) j.toNat h2]
      rfl
    simp [Instr.index, asIntOf, run_under ht, h0, this]
  · simp at h

theorem idxA_V {t e : TypeId} {len n : Nat} {ag : Bool} (ht : P.underlying t = some (.array len e)) (hn : szOf P e = some n) (ha : agOf P e = some ag) {x i r : AV} {xv iv : Value}
    (hx : V c x xv) (hi : V c i iv) (h : idxA len n ag x i = some r) : ∃ v, (Instr.index t xv iv).run P c.w = .ok v c.w ∧ V c r v := by
  unfold idxA at h
  split at h
  · rename_i cs k j
    cases hi
    cases hx with
    | agg _ vs hs hv =>
      split at h
      case isFalse => simp at h
      rename_i hb
      obtain ⟨v, hr, hV⟩ := part_V (P := P) hn ha hs hv h c.w
      refine ⟨v, ?_, hV⟩
      simp [Instr.index, asIntOf, run_under ht, hb.1, hb.2, run_szOf hn, hr]
  · simp at h

theorem fld_V {s : TypeId} {fs : Array Field} {f : Nat} {fd : Field} {n : Nat} {ag : Bool} (hs : P.underlying s = some (.struct fs)) (hf : fs[f]? = some fd) (hn : szOf P fd.type = some n)
    (ha : agOf P fd.type = some ag) {cs : List AV} {r : AV} {xv : Value} (hx : V c (.agg cs) xv) (h : Am.part n ag cs fd.offset = some r) :
    ∃ v, (Instr.field s xv f).run P c.w = .ok v c.w ∧ V c r v := by
  cases hx with
  | agg _ vs hs' hv =>
    obtain ⟨v, hr, hV⟩ := part_V (P := P) hn ha hs' hv h c.w
    refine ⟨v, ?_, hV⟩
    simp [Instr.field, run_under hs, hf, asAgg, hr]

theorem slcS_V {t : TypeId} (ht : P.underlying t = some .string) {x r : AV} {xv : Value} {lo hi : Option AV} {lov hiv : Option Value}
    (hx : V c x xv) (hlo : ∀ y, lo = some y → ∃ yv, lov = some yv ∧ V c y yv) (hlo' : lo = none → lov = none)
    (hhi : ∀ y, hi = some y → ∃ yv, hiv = some yv ∧ V c y yv) (hhi' : hi = none → hiv = none)
    (h : slcS x lo hi = some r) : ∃ v, (Instr.sliceAt t xv lov hiv none).run P c.w = .ok v c.w ∧ V c r v := by
  unfold slcS at h
  split at h
  · rename_i s
    cases hx
    split at h
    case h_2 => simp at h
    rename_i hh eh
    split at h
    case h_2 => simp at h
    rename_i l el
    injection h with h; subst h
    have hsz : (⟨s.toArray⟩ : ByteArray).size = s.length := by simp [ByteArray.size]
    have hb := run_bounds (P := P) (isS := false) (len := s.length) (cap := s.length) hlo hlo' hhi hhi' (Nat.le_refl _) eh el c.w
    refine ⟨_, ?_, V.str _⟩
    simp only [Instr.sliceAt, Sem.run_bind, run_under ht, Result.andThen_ok, Instr.slice, Option.isSome_none, Bool.false_eq_true, if_false, hsz, hb, Sem.run_pure]
    congr 2
    apply ByteArray.ext
    simp [ByteArray.data_extract]
  · simp at h

theorem un_V {op : UnOp} {x r : AV} {xv : Value} (hx : V c x xv) (h : un op x = some r) : ∃ v, (Op.unary op xv).run P c.w = .ok v c.w ∧ V c r v := by
  unfold un at h
  split at h
  · cases hx; injection h with h; subst h; exact ⟨_, rfl, V.int _ _⟩
  · cases hx; injection h with h; subst h; exact ⟨_, rfl, V.int _ _⟩
  · cases hx; injection h with h; subst h; exact ⟨_, rfl, V.bool _⟩
  · simp at h

end
end Go.Am
