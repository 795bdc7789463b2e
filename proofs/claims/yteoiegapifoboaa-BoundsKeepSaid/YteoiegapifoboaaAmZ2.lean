/- Arguments as the machine reads them: what reads as data has a value of the machine, of its type's shape. No condition. -/
import Derived.Test.YteoiegapifoboaaAmZ1
import Derived.ProofKit
import Derived.ChangeArms
namespace Go.Am

def ShL (R : TypeId → List AV → Prop) : List Field → List AV → Prop
  | [], xs => xs = []
  | f :: fs, xs => ∃ a b, xs = a ++ b ∧ R f.type a ∧ ShL R fs b

def ShN (R : List AV → Prop) : Nat → List AV → Prop
  | 0, xs => xs = []
  | n + 1, xs => ∃ a b, xs = a ++ b ∧ R a ∧ ShN R n b

section
variable (P : Program)

/-- cells of a type's shape -/
def Sh : Nat → TypeId → List AV → Prop
  | 0, _, _ => False
  | d + 1, t, xs => match P.underlying t with
    | some .bool => ∃ b, xs = [.bool b]
    | some (.int k) => ∃ n, xs = [.int k n] ∧ (Lit.int k n).wf = true
    | some .string => ∃ s : List UInt8, xs = [.str s] ∧ s.length ≤ maxLen
    | some (.slice e) => ∃ es, xs = [.ro es] ∧ es.length ≤ maxLen ∧ ∀ c ∈ es, Sh d e c
    | some (.struct fs) => ShL (Sh d) fs.toList xs
    | some (.array n e) => ShN (Sh d e) n xs
    | _ => False

/-- fields that lie one behind the other, from a place on -/
def layFs : Nat → List Field → Bool
  | _, [] => true
  | off, f :: fs => f.offset == off && layFs (off + P.cellsOf f.type) fs

def sumFs : List Field → Nat
  | [] => 0
  | f :: fs => P.cellsOf f.type + sumFs fs

def plainT : Nat → TypeId → Bool
  | 0, _ => false
  | d + 1, t => match P.underlying t with
    | some .bool => P.cellsOf t == 1
    | some (.int _) => P.cellsOf t == 1
    | some .string => P.cellsOf t == 1
    | some (.slice e) => P.cellsOf t == 1 && plainT d e
    | some (.struct fs) => layFs P 0 fs.toList && (sumFs P fs.toList == P.cellsOf t) && fs.toList.all fun f => plainT d f.type
    | some (.array n e) => P.cellsOf t == n * P.cellsOf e && plainT d e
    | _ => false

def base (w : World) : Ctx := ⟨w, fun _ => False, id, id, []⟩

/-- cells, as the machine's values -/
def Vs (c : Ctx) (xs : List AV) (cs : List Value) : Prop := xs.length = cs.length ∧ ∀ i (h : i < xs.length) (h' : i < cs.length), V c xs[i] cs[i]

theorem Vs.app {c : Ctx} {xs ys : List AV} {cs ds : List Value} (h : Vs c xs cs) (h' : Vs c ys ds) : Vs c (xs ++ ys) (cs ++ ds) := by
  refine ⟨by simp [h.1, h'.1], fun i h1 h2 => ?_⟩
  by_cases hi : i < xs.length
  · rw [List.getElem_append_left hi, List.getElem_append_left (by rw [← h.1]; exact hi)]
    exact h.2 i hi _
  · rw [List.getElem_append_right (by omega), List.getElem_append_right (by rw [← h.1]; omega)]
    have := h'.2 (i - xs.length) (by simp at h1; omega) (by simp at h2; have := h.1; omega)
    simp only [← h.1]; exact this

theorem Vs.one {c : Ctx} {x : AV} {v : Value} (h : V c x v) : Vs c [x] [v] := by
  refine ⟨rfl, fun i h1 h2 => ?_⟩
  have : i = 0 := by simp at h1; omega
  subst this; exact h

variable {P} {H : Type} {enc : TypeId × Value → H} {W : World}

theorem cell_at {a : Addr} {m j : Nat} {v : Value} (h : W.cell? ((a.add m).add j) = some v) : W.cell? ⟨a.block, a.off + m + j, none⟩ = some v ∧ (m + j = 0 → a.spot = none) := by
  have hs : ∀ b : Addr, W.cell? b = some v → b.spot = none := by
    intro b hb
    unfold World.cell? at hb
    split at hb
    · split at hb
      · simp at hb
      · rename_i h1; simpa using h1
    · simp at hb
  have h0 := hs _ h
  have e : (a.add m).add j = ⟨a.block, a.off + m + j, none⟩ := by
    cases a with
    | mk b o s =>
      unfold Addr.add at h0 ⊢
      by_cases hm : m = 0 <;> by_cases hj : j = 0 <;> simp_all
  refine ⟨by rw [← e]; exact h, fun hz => ?_⟩
  have hm : m = 0 := by omega
  have hj : j = 0 := by omega
  subst hm; subst hj
  simpa [Addr.add] using h0

theorem split_cells {cs : List Value} {n k : Nat} (h : cs.length = n + k) : cs = cs.take n ++ (cs.drop n) ∧ (cs.take n).length = n ∧ (cs.drop n).length = k := by
  refine ⟨(List.take_append_drop n cs).symm, by simp; omega, by simp; omega⟩

theorem trod_Sh : ∀ (D : Nat) (t : TypeId), plainT P D t = true → ∀ (fuel : Nat) (cs : List Value) (x : DataW H × List MemPlace),
    DataW.trod enc P W 0 (fun _ => true) true fuel t cs = some x → cs.length = P.cellsOf t ∧ ∃ xs, Sh P D t xs ∧ Vs (base W) xs cs
  | 0, t, h => by simp [plainT] at h
  | D + 1, t, h => by
    intro fuel cs x hx
    simp only [plainT] at h
    simp only [Sh]
    split at h
    · rename_i hu
      obtain ⟨b, rfl, _⟩ := DataW.trod_bool hu hx
      simp only [beq_iff_eq] at h
      exact ⟨by simp [h], [.bool b], ⟨b, rfl⟩, Vs.one (.bool b)⟩
    · rename_i k hu
      obtain ⟨n, rfl, _, hw⟩ := DataW.trod_int hu hx
      simp only [beq_iff_eq] at h
      exact ⟨by simp [h], [.int k n], ⟨n, rfl, hw⟩, Vs.one (.int k n)⟩
    · rename_i hu
      obtain ⟨s, rfl, _, hl⟩ := DataW.trod_string hu hx
      simp only [beq_iff_eq] at h
      have hsl : s.data.toList.length = s.size := Array.length_toList
      exact ⟨by simp [h], [.str s.data.toList], ⟨_, rfl, by rw [hsl]; exact hl⟩, Vs.one (.str s.data.toList)⟩
    · rename_i e hu
      simp only [Bool.and_eq_true, beq_iff_eq] at h
      rcases DataW.trod_slice hu hx with ⟨rfl, _⟩ | ⟨a, len, cap, elems, rest, n, rfl, rfl, _, _, hlc, hcm, hel, hget, _, _⟩
      · exact ⟨by simp [h.1], [.ro []], ⟨[], rfl, Nat.zero_le _, fun c hc => by simp at hc⟩, Vs.one .ro0⟩
      · have key : ∀ i, i < len → ∃ ys : List Value, ∃ es : List AV, W.cells? 0 (a.add (i * P.cellsOf e)) (P.cellsOf e) = some ys ∧ Sh P D e es ∧ Vs (base W) es ys := by
          intro i hi
          have h1 := hget i hi
          rw [List.getElem?_eq_getElem (by omega)] at h1
          obtain ⟨ys, h2, h3⟩ := Option.bind_eq_some_iff.1 h1
          obtain ⟨_, es, h4, h5⟩ := trod_Sh D e h.2 n ys _ h3
          exact ⟨ys, es, h2, h4, h5⟩
        let g : Nat → List Value := fun i => if hi : i < len then Classical.choose (key i hi) else []
        let f : Nat → List AV := fun i => if hi : i < len then Classical.choose (Classical.choose_spec (key i hi)) else []
        have hg : ∀ i, i < len → W.cells? 0 (a.add (i * P.cellsOf e)) (P.cellsOf e) = some (g i) ∧ Sh P D e (f i) ∧ Vs (base W) (f i) (g i) := by
          intro i hi
          have := Classical.choose_spec (Classical.choose_spec (key i hi))
          simp only [g, f, hi, dif_pos]
          exact this
        have hc : ∀ i, i < len → (g i).length = P.cellsOf e ∧ ∀ j, j < P.cellsOf e → W.cell? ⟨a.block, a.off + i * P.cellsOf e + j, none⟩ = some ((g i).getD j undef) ∧ (i * P.cellsOf e + j = 0 → a.spot = none) := by
          intro i hi
          obtain ⟨_, h2, h3⟩ := World.cells?_some (hg i hi).1
          refine ⟨h2, fun j hj => ?_⟩
          have h4 := h3 j hj
          have hj' : j < (g i).length := by omega
          rw [List.getElem?_eq_getElem hj'] at h4
          have h5 := cell_at h4
          simp only [List.getD, List.getElem?_eq_getElem hj', Option.getD_some]
          exact h5
        have hlen : ((List.range len).map f).length = len := by simp
        refine ⟨by simp [h.1], [.ro ((List.range len).map f)], ⟨_, rfl, by rw [hlen]; omega, fun c hm => ?_⟩, Vs.one ?_⟩
        · obtain ⟨i, hi, rfl⟩ := List.mem_map.1 hm
          exact (hg i (by simpa using hi)).2.1
        · have hV := V.ro (c := base W) ((List.range len).map f) a cap (P.cellsOf e) (fun i j => (g i).getD j undef) (by rw [hlen]; exact hlc) (fun hne hz => ⟨?_, fun h => h⟩) (fun i hi => ?_) (fun i j hi hj => ?_) (fun i j hi hj => ?_)
          · rw [hlen] at hV; exact hV
          · have h0 : 0 < len := by
              rcases Nat.eq_zero_or_pos len with e0 | e0
              · subst e0; simp at hne
              · exact e0
            exact ((hc 0 h0).2 0 hz).2 (by simp)
          · have hi' : i < len := by simpa using hi
            simp only [List.getElem_map, List.getElem_range]
            rw [(hg i hi').2.2.1, (hc i hi').1]
          · have hi' : i < len := by simpa using hi
            simp only [List.getElem_map, List.getElem_range] at hj
            rw [(hg i hi').2.2.1, (hc i hi').1] at hj
            exact ((hc i hi').2 j hj).1
          · have hi' : i < len := by simpa using hi
            simp only [List.getElem_map, List.getElem_range] at hj ⊢
            have hj' : j < (g i).length := by rw [← (hg i hi').2.2.1]; exact hj
            have := (hg i hi').2.2.2 j hj hj'
            simpa [List.getD, hj'] using this
    · rename_i fs hu
      simp only [Bool.and_eq_true, beq_iff_eq, List.all_eq_true] at h
      obtain ⟨⟨hlay, hsum⟩, hall⟩ := h
      obtain ⟨xs, n, rfl, _, hcl, hxl, hget⟩ := DataW.trod_struct hu hx
      refine ⟨hcl, ?_⟩
      have key : ∀ (l : List Field) (off k : Nat), (∀ i f, l[i]? = some f → fs[k + i]? = some f) → layFs P off l = true → off + sumFs P l = cs.length → (∀ f ∈ l, plainT P D f.type = true) →
          ∃ ys, ShL (Sh P D) l ys ∧ Vs (base W) ys (cs.drop off) := by
        intro l
        induction l with
        | nil =>
          intro off k _ _ hs _
          refine ⟨[], rfl, ?_⟩
          simp only [sumFs, Nat.add_zero] at hs
          rw [hs, List.drop_length]
          exact ⟨rfl, fun i h1 => by simp at h1⟩
        | cons f l ih =>
          intro off k hk hl hs hp
          simp only [layFs, Bool.and_eq_true, beq_iff_eq] at hl
          simp only [sumFs] at hs
          have hf := hget k f (by have := hk 0 f rfl; simpa using this)
          have hkx : k < xs.length := by
            rw [hxl]
            have := hk 0 f rfl
            exact (Array.getElem?_eq_some_iff.1 this).1
          rw [List.getElem?_eq_getElem hkx] at hf
          obtain ⟨_, ys, y1, y2⟩ := trod_Sh D f.type (hp f (by simp)) n _ _ hf
          obtain ⟨zs, z1, z2⟩ := ih (off + P.cellsOf f.type) (k + 1) (fun i f' hi => by have := hk (i + 1) f' (by simpa using hi); rw [← this]; congr 1; omega) hl.2 (by omega) (fun f' hf' => hp f' (by simp [hf']))
          refine ⟨ys ++ zs, ⟨ys, zs, rfl, y1, z1⟩, ?_⟩
          have e1 : cs.drop off = (cs.drop f.offset).take (P.cellsOf f.type) ++ cs.drop (off + P.cellsOf f.type) := by
            rw [hl.1, ← List.drop_drop, List.take_append_drop]
          rw [e1]
          exact y2.app z2
      obtain ⟨ys, y1, y2⟩ := key fs.toList 0 0 (fun i f hi => by simpa using hi) hlay (by omega) (fun f hf => hall f hf)
      exact ⟨ys, y1, by simpa using y2⟩
    · rename_i n e hu
      simp only [Bool.and_eq_true, beq_iff_eq] at h
      have hinv : cs.length = P.cellsOf t ∧ ∃ m, fuel = m + 1 ∧ ∀ i, i < n → ∃ y, DataW.trod enc P W 0 (fun _ => true) true m e ((cs.drop (i * P.cellsOf e)).take (P.cellsOf e)) = some y := by
        cases fuel with
        | zero => simp [DataW.trod] at hx
        | succ m =>
          unfold DataW.trod at hx
          rw [hu] at hx
          split at hx <;> simp_all
          obtain ⟨hl0, ys, hp, _⟩ := hx
          refine fun i hi => ?_
          have hl := mapM_some_length hp
          have h2 := mapM_some_get hp i i (by simp [hi])
          simp at hl
          rw [List.getElem?_eq_getElem (by omega)] at h2
          exact ⟨ys[i].1, ys[i].2, h2⟩
      obtain ⟨hcl, m, rfl, hget⟩ := hinv
      refine ⟨hcl, ?_⟩
      have key : ∀ (k off : Nat), off + k = n → ∃ ys, ShN (Sh P D e) k ys ∧ Vs (base W) ys (cs.drop (off * P.cellsOf e)) := by
        intro k
        induction k with
        | zero =>
          intro off ho
          refine ⟨[], rfl, ?_⟩
          have : off * P.cellsOf e = cs.length := by rw [hcl, h.1]; congr 1
          rw [this, List.drop_length]
          exact ⟨rfl, fun i h1 => by simp at h1⟩
        | succ k ih =>
          intro off ho
          obtain ⟨y, hy⟩ := hget off (by omega)
          obtain ⟨_, ys, y1, y2⟩ := trod_Sh D e h.2 m _ _ hy
          obtain ⟨zs, z1, z2⟩ := ih (off + 1) (by omega)
          refine ⟨ys ++ zs, ⟨ys, zs, rfl, y1, z1⟩, ?_⟩
          have e1 : cs.drop (off * P.cellsOf e) = (cs.drop (off * P.cellsOf e)).take (P.cellsOf e) ++ cs.drop ((off + 1) * P.cellsOf e) := by
            rw [Nat.add_mul, Nat.one_mul, ← List.drop_drop, List.take_append_drop]
          rw [e1]
          exact y2.app z2
      obtain ⟨ys, y1, y2⟩ := key n 0 (by omega)
      exact ⟨ys, y1, by simpa using y2⟩
    · simp at h

/-- is the type's value a bundle of cells? -/
def aggT (P : Program) (t : TypeId) : Bool := match P.underlying t with
  | some (.struct _) => true
  | some (.array _ _) => true
  | _ => false

/-- an argument's shape, as a value -/
def ShV (P : Program) (D : Nat) (t : TypeId) (x : AV) : Prop := if aggT P t then ∃ xs, x = .agg xs ∧ Sh P D t xs else Sh P D t [x]

theorem Trod_ShV {D : Nat} {t : TypeId} (hp : plainT P D t = true) {v : Value} {b : Nat} (hok : Value.okWide P W .any b t v) {d : DataW H} {ps : List MemPlace}
    (h : DataW.Trod enc P W 0 (fun _ => true) true t v d ps) : ∃ x, ShV P D t x ∧ V (base W) x v := by
  obtain ⟨fuel, hf⟩ := h
  obtain ⟨hlen, xs, h1, h2⟩ := trod_Sh D t hp fuel _ _ hf
  unfold ShV
  by_cases ha : aggT P t = true
  · simp only [ha, if_true]
    have hagg : ∃ cs, v = .agg cs := by
      unfold aggT at ha
      unfold Value.okWide at hok
      split at ha
      · rename_i hu; rw [hu] at hok; obtain ⟨cs, rfl, _⟩ := hok; exact ⟨cs, rfl⟩
      · rename_i hu; rw [hu] at hok; obtain ⟨cs, rfl, _⟩ := hok; exact ⟨cs, rfl⟩
      · simp at ha
    obtain ⟨cs, rfl⟩ := hagg
    refine ⟨.agg xs, ⟨xs, rfl, h1⟩, .agg xs cs ?_ fun i hi hj => ?_⟩
    · have := h2.1; simpa [Value.cells] using this.symm
    · have := h2.2 i hi (by simpa [Value.cells] using hj); simpa [Value.cells] using this
  · simp only [Bool.not_eq_true] at ha
    simp only [ha, Bool.false_eq_true, if_false]
    have hone : P.cellsOf t = 1 := by
      cases D with
      | zero => simp [plainT] at hp
      | succ D =>
        simp only [plainT] at hp
        unfold aggT at ha
        split at hp <;> simp_all
    have hvs : ∃ u, v.cells.toList = [u] := by
      rw [hone] at hlen
      exact List.length_eq_one_iff.1 hlen
    obtain ⟨u, hu⟩ := hvs
    have hvu : v = u := by
      cases v with
      | agg cs =>
        exfalso
        unfold Value.okWide at hok
        unfold aggT at ha
        cases D with
        | zero => simp [plainT] at hp
        | succ D =>
          simp only [plainT] at hp
          split at hp
          all_goals rename_i hu'
          all_goals first
            | (rw [hu'] at ha; simp at ha; done)
            | (rw [hu'] at hok; simp [Cell.okWide, hu', Cell.ok] at hok; done)
            | (simp at hp; done)
      | _ => simpa [Value.cells] using hu
    subst hvu
    rw [hu] at h2
    obtain ⟨x, rfl⟩ : ∃ x, xs = [x] := List.length_eq_one_iff.1 (by rw [h2.1]; rfl)
    exact ⟨x, h1, h2.2 0 (by simp) (by simp)⟩

end
end Go.Am
