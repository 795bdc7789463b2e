/- The state's relation, and how it goes on when one object is made or changed. No condition. -/
import Derived.Test.YteoiegapifoboaaAmN
namespace Go.Am

def Owned (H : List Obj) (ι : Nat → Nat) (b : Nat) : Prop := ∃ id nl sz es, H[id]? = some (.live nl sz es) ∧ ¬(nl = .nil ∧ es = []) ∧ ι id = b

structure SR (F : Nat → Prop) (c : Ctx) : Prop where
  hr : HR c
  hO : ∀ b, c.O b ↔ (F b ∨ Owned c.H c.ι b)
  hF : ∀ b, F b → b < c.w.heap.size
  disj : ∀ b, Owned c.H c.ι b → ¬ F b

/-- what no operation of the machine turns -/
structure Same (w w' : World) : Prop where
  os : w'.os = w.os
  tape : w'.tape = w.tape
  output : w'.output = w.output
  frz : ∀ a, w'.frozen? a = w.frozen? a

theorem Same.refl (w : World) : Same w w := ⟨rfl, rfl, rfl, fun _ => rfl⟩
theorem Same.trans {a b c : World} (h : Same a b) (k : Same b c) : Same a c := ⟨k.os.trans h.os, k.tape.trans h.tape, k.output.trans h.output, fun x => (k.frz x).trans (h.frz x)⟩

theorem Same.push (w : World) (cells : Array Value) (elem : TypeId) (k : Nat) : Same w { w with drawn := k, heap := w.heap.push (.cells cells elem) } := by
  refine ⟨rfl, rfl, rfl, fun a => ?_⟩
  by_cases h : a.block = w.heap.size
  · simp only [World.frozen?, Array.getElem?_push, h, if_true, Array.getElem?_eq_none (Nat.le_refl _)]
    simp
  · simp only [World.frozen?, Array.getElem?_push, h, if_false]

theorem Same.setRow {w : World} {b : Nat} {old cells : Array Value} {elem : TypeId} {fr : Nat × Nat} (h : w.heap[b]? = some (.cells old elem fr)) : Same w (w.setRow b cells) := by
  refine ⟨rfl, rfl, rfl, fun a => ?_⟩
  by_cases ha : a.block = b
  · simp only [World.frozen?, ha, setRow_heap w b old cells elem fr h, h]
  · simp only [World.frozen?, setRow_other w b a.block cells ha]

/-- what the future of a run keeps: memory of others, and values whose references lie below n -/
structure Fut (n : Nat) (c d : Ctx) : Prop where
  size : c.w.heap.size ≤ d.w.heap.size
  keep : ∀ b, b < c.w.heap.size → ¬ Owned c.H c.ι b → d.w.heap[b]? = c.w.heap[b]?
  vals : ∀ x v, AV.bel n x = true → V c x v → V d x v
  owned : ∀ b, Owned d.H d.ι b → Owned c.H c.ι b ∨ c.w.heap.size ≤ b
  len : n ≤ c.H.length → n ≤ d.H.length
  same : Same c.w d.w

theorem Fut.refl (n : Nat) (c : Ctx) : Fut n c c := ⟨Nat.le_refl _, fun _ _ _ => rfl, fun _ _ _ h => h, fun _ h => .inl h, fun h => h, Same.refl _⟩

theorem Fut.trans {n : Nat} {c d e : Ctx} (h : Fut n c d) (h' : Fut n d e) : Fut n c e where
  size := Nat.le_trans h.size h'.size
  keep b hb hn := by
    rw [h'.keep b (Nat.lt_of_lt_of_le hb h.size) (fun ho => (h.owned b ho).elim hn (fun hc => by omega)), h.keep b hb hn]
  vals x v hb hV := h'.vals x v hb (h.vals x v hb hV)
  owned b ho := by
    rcases h'.owned b ho with h1 | h1
    · exact h.owned b h1
    · exact .inr (Nat.le_trans h.size h1)
  len hn := h'.len (h.len hn)
  same := h.same.trans h'.same

theorem lt_of_some {H : List Obj} {id : Nat} {o : Obj} (h : H[id]? = some o) : id < H.length := by
  rcases Nat.lt_or_ge id H.length with h1 | h1
  · exact h1
  · rw [List.getElem?_eq_none h1] at h; simp at h

/-- one object is made, or changed -/
theorem updN {F : Nat → Prop} {c : Ctx} (h : SR F c) (id B k : Nat) (nl : Fl) (sz : Nat) (es' : List (List AV)) (cells : Array Value) (elem : TypeId) (w' : World) (H' : List Obj)
    (hlen : c.H.length ≤ H'.length) (hid : H'[id]? = some (.live nl sz es')) (hoth : ∀ j, j ≠ id → H'[j]? = c.H[j]? ∨ (c.H.length ≤ j ∧ H'[j]? = none)) (hnd : c.H[id]? ≠ some .dead)
    (hold : ∀ nl0 sz0 es0, c.H[id]? = some (.live nl0 sz0 es0) → nl0 = nl ∧ sz0 = sz ∧ es0.length ≤ es'.length ∧ (es0.length = es'.length → ¬(nl = .nil ∧ es0 = []) ∧ B = c.ι id ∧ k = c.K id))
    (hb : ¬(nl = .nil ∧ es' = [])) (hsame : Same c.w w') (hw1 : c.w.heap.size ≤ w'.heap.size) (hw2 : ∀ b, b < c.w.heap.size → b ≠ B → w'.heap[b]? = c.w.heap[b]?)
    (hwB : w'.heap[B]? = some (.cells cells elem (0, 0)))
    (hB : c.w.heap.size ≤ B ∨ Owned c.H c.ι B)
    (hsh : ∀ j nl0 sz0 es0, j ≠ id → c.H[j]? = some (.live nl0 sz0 es0) → ¬(nl0 = .nil ∧ es0 = []) → c.ι j = B →
      nl0.old = true ∧ nl.kid = true ∧ sz0 = sz ∧ es0.length ≤ es'.length ∧ j < id ∧ ∀ cl el, c.w.heap[B]? = some (.cells cl el (0, 0)) → cells.size = cl.size ∧ ∀ q, q < es0.length * sz0 → cells[q]? = cl[q]?)
    (hk : cells.size = k * sz) (hle : es'.length ≤ k)
    (hc : ∀ i (hi : i < es'.length), es'[i].length = sz ∧ ∀ j (hj : j < es'[i].length), ∃ u, cells[i * sz + j]? = some u ∧ (V c es'[i][j] u ∨ ∀ d : Ctx, d.w = w' → (∀ b, d.O b → c.O b ∨ b = B) → V d es'[i][j] u)) :
    ∃ d : Ctx, d.w = w' ∧ d.H = H' ∧ SR F d ∧ (∀ x v, V c x v → V d x v) ∧ (∀ n, Fut n c d) ∧ d.ι id = B ∧ d.K id = k := by
  let ι' : Nat → Nat := fun j => if j = id then B else c.ι j
  let K' : Nat → Nat := fun j => if j = id then k else c.K j
  let d : Ctx := ⟨w', fun b => F b ∨ Owned H' ι' b, ι', K', H'⟩
  have hoth' : ∀ j nl0 sz0 es0, j ≠ id → H'[j]? = some (.live nl0 sz0 es0) → c.H[j]? = some (.live nl0 sz0 es0) := by
    intro j nl0 sz0 es0 hj hs
    rcases hoth j hj with e | ⟨_, e⟩
    · rw [← e]; exact hs
    · rw [e] at hs; simp at hs
  have hownB : ∀ b, b < c.w.heap.size → ¬ Owned c.H c.ι b → b ≠ B := by
    rintro b hlt hn rfl
    rcases hB with e | e
    · omega
    · exact hn e
  have howned : ∀ b, Owned H' ι' b → b = B ∨ Owned c.H c.ι b := by
    rintro b ⟨j, nl0, sz0, es0, h1, h2, h3⟩
    by_cases hj : j = id
    · left; simp only [ι', hj, if_true] at h3; exact h3.symm
    · right; refine ⟨j, nl0, sz0, es0, hoth' j _ _ _ hj h1, h2, ?_⟩
      simp only [ι', hj, if_false] at h3; exact h3
  have hBnF : ¬ F B := by
    intro hf
    rcases hB with e | e
    · have := h.hF B hf; omega
    · exact h.disj B e hf
  have hHas : ∀ i, Has c i → Has d i := by
    rintro i ⟨h1, h2⟩
    refine ⟨Nat.lt_of_lt_of_le h1 hlen, ?_⟩
    show H'[i]? ≠ some .rsv
    by_cases hi : i = id
    · subst hi; rw [hid]; simp
    · rcases hoth i hi with e | ⟨e, _⟩
      · rw [e]; exact h2
      · omega
  have hV : ∀ x v, V c x v → V d x v := by
    intro x v hx
    refine V.mono ?_ ?_ ?_ ?_ hx
    · intro b hb' hs
      have hlt : b < c.w.heap.size := by
        rcases Nat.lt_or_ge b c.w.heap.size with e | e
        · exact e
        · rw [Array.getElem?_eq_none e] at hs; simp at hs
      have hnO : ¬ Owned c.H c.ι b := fun ho => hb' ((h.hO b).2 (.inr ho))
      have hne := hownB b hlt hnO
      refine ⟨hw2 b hlt hne, ?_⟩
      rintro (hf | ho)
      · exact hb' ((h.hO b).2 (.inl hf))
      · rcases howned b ho with e | e
        · exact hne e
        · exact hnO e
    · rintro i ext off len v ⟨hi, hsl, hf⟩
      refine ⟨hHas i hi, hsl, fun nl0 sz0 es0 hs => ?_⟩
      by_cases hii : i = id
      · subst hii
        have hs' : some (Obj.live nl0 sz0 es0) = some (.live nl sz es') := by rw [← hs]; exact hid
        injection hs' with hs'; injection hs' with a1 a2 a3; subst a1; subst a2; subst a3
        obtain ⟨ob, hob⟩ : ∃ ob, c.H[i]? = some ob := ⟨_, List.getElem?_eq_getElem hi.1⟩
        cases ob with
        | dead => exact (hnd hob).elim
        | rsv => exact (hi.2 hob).elim
        | live nl1 sz1 es1 =>
          obtain ⟨rfl, rfl, hle', heq⟩ := hold _ _ _ hob
          obtain ⟨g1, g2⟩ := hf _ _ _ hob
          refine ⟨Nat.le_trans g1 hle', fun he => ?_⟩
          have e1 : es1.length = es0.length := by omega
          obtain ⟨b1, b2, b3⟩ := heq e1
          obtain ⟨g3, g4⟩ := g2 (by omega)
          refine ⟨g3, ?_⟩
          rcases g4 with ⟨x1, x2, _⟩ | ⟨_, cap, x3, x4⟩
          · exact (b1 ⟨x1, x2⟩).elim
          · right
            refine ⟨hb, cap, ?_, ?_⟩
            · simp only [d, ι', if_true, b2]; exact x3
            · simp only [d, K', if_true, b3]; exact x4
      · have := hf _ _ _ (hoth' i _ _ _ hii hs)
        simpa only [d, ι', K', hii, if_false] using this
    · rintro i ext e o v ⟨hi, a, hv, hsp, hf⟩
      refine ⟨hHas i hi, a, hv, hsp, fun nl0 sz0 es0 hs => ?_⟩
      by_cases hii : i = id
      · subst hii
        have hs' : some (Obj.live nl0 sz0 es0) = some (.live nl sz es') := by rw [← hs]; exact hid
        injection hs' with hs'; injection hs' with a1 a2 a3; subst a1; subst a2; subst a3
        obtain ⟨ob, hob⟩ : ∃ ob, c.H[i]? = some ob := ⟨_, List.getElem?_eq_getElem hi.1⟩
        cases ob with
        | dead => exact (hnd hob).elim
        | rsv => exact (hi.2 hob).elim
        | live nl1 sz1 es1 =>
          obtain ⟨rfl, rfl, hle', heq⟩ := hold _ _ _ hob
          obtain ⟨g1, g2⟩ := hf _ _ _ hob
          refine ⟨Nat.le_trans g1 hle', fun he => ?_⟩
          obtain ⟨b1, b2, b3⟩ := heq (by omega)
          simp only [d, ι', if_true, b2]; exact g2 (by omega)
      · have := hf _ _ _ (hoth' i _ _ _ hii hs)
        simpa only [d, ι', K', hii, if_false] using this
    · rintro i ext e o len v ⟨hi, a, hv, hsp, hf⟩
      refine ⟨hHas i hi, a, hv, hsp, fun nl0 sz0 es0 hs => ?_⟩
      by_cases hii : i = id
      · subst hii
        have hs' : some (Obj.live nl0 sz0 es0) = some (.live nl sz es') := by rw [← hs]; exact hid
        injection hs' with hs'; injection hs' with a1 a2 a3; subst a1; subst a2; subst a3
        obtain ⟨ob, hob⟩ : ∃ ob, c.H[i]? = some ob := ⟨_, List.getElem?_eq_getElem hi.1⟩
        cases ob with
        | dead => exact (hnd hob).elim
        | rsv => exact (hi.2 hob).elim
        | live nl1 sz1 es1 =>
          obtain ⟨rfl, rfl, hle', heq⟩ := hold _ _ _ hob
          obtain ⟨g1, g2⟩ := hf _ _ _ hob
          refine ⟨Nat.le_trans g1 hle', fun he => ?_⟩
          obtain ⟨b1, b2, b3⟩ := heq (by omega)
          simp only [d, ι', if_true, b2]; exact g2 (by omega)
      · have := hf _ _ _ (hoth' i _ _ _ hii hs)
        simpa only [d, ι', K', hii, if_false] using this
  have hBown : ∀ b, Owned H' ι' b → Owned c.H c.ι b ∨ c.w.heap.size ≤ b := by
    intro b ho
    rcases howned b ho with rfl | e
    · rcases hB with e | e
      · right; omega
      · exact .inl e
    · exact .inl e
  refine ⟨d, rfl, rfl, ⟨⟨?_, ?_⟩, fun b => Iff.rfl, fun b hf => Nat.lt_of_lt_of_le (h.hF b hf) hw1, ?_⟩, hV, fun n => ⟨hw1, fun b hlt hn => hw2 b hlt (hownB b hlt hn), fun x v _ hx => hV x v hx, hBown, fun hn => Nat.le_trans hn hlen, hsame⟩, by simp [d, ι'], by simp [d, K']⟩
  · intro j nl0 sz0 es0 hs hbk
    by_cases hj : j = id
    · subst hj
      have hs' : some (Obj.live nl0 sz0 es0) = some (.live nl sz es') := by rw [← hs]; exact hid
      injection hs' with hs'; injection hs' with a1 a2 a3; subst a1; subst a2; subst a3
      refine ⟨cells, elem, by simp only [d, ι', if_true]; exact hwB, by simp only [d, K', if_true]; exact hk, by simp only [d, K', if_true]; exact hle, ?_, ?_⟩
      · exact .inr ⟨j, nl0, sz0, es0, hs, hbk, rfl⟩
      · intro i hi
        obtain ⟨g1, g2⟩ := hc i hi
        refine ⟨g1, fun q hq => ?_⟩
        obtain ⟨u, hu, hVu⟩ := g2 q hq
        refine ⟨u, hu, hVu.elim (hV _ _) fun f => f d rfl fun b hb => ?_⟩
        rcases hb with hf | ho
        · exact .inl ((h.hO b).2 (.inl hf))
        · rcases howned b ho with e | e
          · exact .inr e
          · exact .inl ((h.hO b).2 (.inr e))
    · have hs0 := hoth' j _ _ _ hj hs
      obtain ⟨cl, el, g1, g2, g3, g4, g5⟩ := h.hr.back j _ _ _ hs0 hbk
      have hjlt : c.ι j < c.w.heap.size := by
        rcases Nat.lt_or_ge (c.ι j) c.w.heap.size with e | e
        · exact e
        · rw [Array.getElem?_eq_none e] at g1; simp at g1
      by_cases hjB : c.ι j = B
      · obtain ⟨_, _, _, _, _, hcl⟩ := hsh j _ _ _ hj hs0 hbk hjB
        obtain ⟨k1, k2⟩ := hcl cl el (by rw [← hjB]; exact g1)
        refine ⟨cells, elem, by simp only [d, ι', hj, if_false]; rw [hjB]; exact hwB, by simp only [d, K', hj, if_false]; rw [k1]; exact g2, by simp only [d, K', hj, if_false]; exact g3, ?_, ?_⟩
        · exact .inr ⟨j, nl0, sz0, es0, hs, hbk, rfl⟩
        · intro i hi
          obtain ⟨q1, q2⟩ := g5 i hi
          refine ⟨q1, fun q hq => ?_⟩
          obtain ⟨u, hu, hVu⟩ := q2 q hq
          have hmul := Nat.mul_le_mul_right sz0 (show i + 1 ≤ es0.length by omega)
          rw [Nat.add_mul, Nat.one_mul] at hmul
          exact ⟨u, by rw [k2 _ (by omega)]; exact hu, hV _ _ hVu⟩
      refine ⟨cl, el, by simp only [d, ι', hj, if_false]; rw [hw2 _ hjlt hjB]; exact g1, by simp only [d, K', hj, if_false]; exact g2, by simp only [d, K', hj, if_false]; exact g3, ?_, ?_⟩
      · exact .inr ⟨j, nl0, sz0, es0, hs, hbk, rfl⟩
      · intro i hi
        obtain ⟨q1, q2⟩ := g5 i hi
        refine ⟨q1, fun q hq => ?_⟩
        obtain ⟨u, hu, hVu⟩ := q2 q hq
        exact ⟨u, hu, hV _ _ hVu⟩
  · intro j j' nl0 sz0 es0 nl1 sz1 es1 hs hbk hs' hbk' he hlt
    simp only [d, ι'] at he
    by_cases hj : j = id
    · have hj' : j' ≠ id := by omega
      simp only [hj, hj', if_true, if_false] at he
      have := hsh j' _ _ _ hj' (hoth' j' _ _ _ hj' hs') hbk' he.symm
      omega
    · by_cases hj' : j' = id
      · simp only [hj, hj', if_true, if_false] at he
        obtain ⟨k1, k2, k3, k4, _⟩ := hsh j _ _ _ hj (hoth' j _ _ _ hj hs) hbk he
        have hs2 : some (Obj.live nl1 sz1 es1) = some (.live nl sz es') := by rw [← hid, ← hj']; exact hs'.symm
        injection hs2 with hs2; injection hs2 with a1 a2 a3; subst a1; subst a2; subst a3
        exact ⟨k1, k2, k3, k4⟩
      · simp only [hj, hj', if_false] at he
        exact h.hr.inj j j' _ _ _ _ _ _ (hoth' j _ _ _ hj hs) hbk (hoth' j' _ _ _ hj' hs') hbk' he hlt
  · intro b ho hf
    rcases howned b ho with rfl | e
    · exact hBnF hf
    · exact h.disj b e hf

/-- one object is made, or changed -/
theorem upd {F : Nat → Prop} {c : Ctx} (h : SR F c) (id B k : Nat) (nl : Fl) (sz : Nat) (es' : List (List AV)) (cells : Array Value) (elem : TypeId) (w' : World) (H' : List Obj)
    (hlen : c.H.length ≤ H'.length) (hid : H'[id]? = some (.live nl sz es')) (hoth : ∀ j, j ≠ id → H'[j]? = c.H[j]? ∨ (c.H.length ≤ j ∧ H'[j]? = none)) (hnd : c.H[id]? ≠ some .dead)
    (hold : ∀ nl0 sz0 es0, c.H[id]? = some (.live nl0 sz0 es0) → nl0 = nl ∧ sz0 = sz ∧ es0.length ≤ es'.length ∧ (es0.length = es'.length → ¬(nl = .nil ∧ es0 = []) ∧ B = c.ι id ∧ k = c.K id))
    (hb : ¬(nl = .nil ∧ es' = [])) (hsame : Same c.w w') (hw1 : c.w.heap.size ≤ w'.heap.size) (hw2 : ∀ b, b < c.w.heap.size → b ≠ B → w'.heap[b]? = c.w.heap[b]?)
    (hwB : w'.heap[B]? = some (.cells cells elem (0, 0)))
    (hB : B = c.w.heap.size ∨ Owned c.H c.ι B)
    (hsh : ∀ j nl0 sz0 es0, j ≠ id → c.H[j]? = some (.live nl0 sz0 es0) → ¬(nl0 = .nil ∧ es0 = []) → c.ι j = B →
      nl0.old = true ∧ nl.kid = true ∧ sz0 = sz ∧ es0.length ≤ es'.length ∧ j < id ∧ ∀ cl el, c.w.heap[B]? = some (.cells cl el (0, 0)) → cells.size = cl.size ∧ ∀ q, q < es0.length * sz0 → cells[q]? = cl[q]?)
    (hk : cells.size = k * sz) (hle : es'.length ≤ k)
    (hc : ∀ i (hi : i < es'.length), es'[i].length = sz ∧ ∀ j (hj : j < es'[i].length), ∃ u, cells[i * sz + j]? = some u ∧ V c es'[i][j] u) :
    ∃ d : Ctx, d.w = w' ∧ d.H = H' ∧ SR F d ∧ (∀ x v, V c x v → V d x v) ∧ (∀ n, Fut n c d) ∧ d.ι id = B ∧ d.K id = k :=
  updN h id B k nl sz es' cells elem w' H' hlen hid hoth hnd hold hb hsame hw1 hw2 hwB (hB.imp (fun e => by omega) fun e => e) hsh hk hle fun i hi => ⟨(hc i hi).1, fun j hj => by
    obtain ⟨u, e, v⟩ := (hc i hi).2 j hj
    exact ⟨u, e, .inl v⟩⟩

theorem fresh_ne {F : Nat → Prop} {c : Ctx} (h : SR F c) {j : Nat} {nl : Fl} {sz : Nat} {es : List (List AV)} (hs : c.H[j]? = some (.live nl sz es)) (hbk : ¬(nl = .nil ∧ es = [])) (he : c.ι j = c.w.heap.size) : False := by
  obtain ⟨cells, elem, g1, _⟩ := h.hr.back j _ _ _ hs hbk
  rw [he, Array.getElem?_eq_none (Nat.le_refl _)] at g1
  simp at g1

/-- an object of which no other one has the row -/
theorem alone {F : Nat → Prop} {c : Ctx} (h : SR F c) {id j : Nat} {nl nl0 : Fl} {sz sz0 : Nat} {es es0 : List (List AV)} (hid : c.H[id]? = some (.live nl sz es)) (hbk : ¬(nl = .nil ∧ es = [])) (hf : nl.free = true)
    (hj : j ≠ id) (hs : c.H[j]? = some (.live nl0 sz0 es0)) (hbk0 : ¬(nl0 = .nil ∧ es0 = [])) (he : c.ι j = c.ι id) : False := by
  rcases Nat.lt_or_gt_of_ne hj with hlt | hlt
  · obtain ⟨_, k, _⟩ := h.hr.inj j id _ _ _ _ _ _ hs hbk0 hid hbk he hlt
    cases nl <;> simp [Fl.free, Fl.kid] at hf k
  · obtain ⟨k, _⟩ := h.hr.inj id j _ _ _ _ _ _ hid hbk hs hbk0 he.symm hlt
    cases nl <;> simp [Fl.free, Fl.old] at hf k

/-- an object that has made no other one: those that have its row are older, and shorter -/
theorem elder {F : Nat → Prop} {c : Ctx} (h : SR F c) {id j : Nat} {nl nl0 : Fl} {sz sz0 : Nat} {es es0 : List (List AV)} (hid : c.H[id]? = some (.live nl sz es)) (hbk : ¬(nl = .nil ∧ es = [])) (hf : nl.old = false)
    (hj : j ≠ id) (hs : c.H[j]? = some (.live nl0 sz0 es0)) (hbk0 : ¬(nl0 = .nil ∧ es0 = [])) (he : c.ι j = c.ι id) : nl0.old = true ∧ nl.kid = true ∧ sz0 = sz ∧ es0.length ≤ es.length ∧ j < id := by
  rcases Nat.lt_or_gt_of_ne hj with hlt | hlt
  · obtain ⟨k1, k2, k3, k4⟩ := h.hr.inj j id _ _ _ _ _ _ hs hbk0 hid hbk he hlt
    exact ⟨k1, k2, k3, k4, hlt⟩
  · obtain ⟨k, _⟩ := h.hr.inj id j _ _ _ _ _ _ hid hbk hs hbk0 he.symm hlt
    rw [hf] at k; simp at k

end Go.Am
