/- Operations that make or change memory: what the abstract machine says of them, the program's run does. Condition: the state's relation. -/
import Derived.Test.YteoiegapifoboaaAmO
namespace Go.Am
section
variable {P : Program} {F : Nat → Prop} {c : Ctx}

def Went (F : Nat → Prop) (c d : Ctx) : Prop := SR F d ∧ (∀ x v, V c x v → V d x v) ∧ ∀ n, Fut n c d

theorem Went.refl (h : SR F c) : Went F c c := ⟨h, fun _ _ h => h, fun n => Fut.refl n c⟩
theorem Went.trans {d e : Ctx} (h : Went F c d) (h' : Went F d e) : Went F c e :=
  ⟨h'.1, fun x v hv => h'.2.1 x v (h.2.1 x v hv), fun n => (h.2.2 n).trans (h'.2.2 n)⟩

/-- a place for a new object: one that was kept, or the one behind all others -/
def Room (H : List Obj) (pl : Nat) : Prop := H[pl]? = some .rsv ∨ pl = H.length

theorem put_self {H : List Obj} {pl : Nat} (h : Room H pl) (o : Obj) : (putObj H pl o)[pl]? = some o := by
  rcases h with h | h
  · rw [putObj_get (rsv_lt h), if_pos rfl]
  · subst h; simp [putObj]

theorem put_other {H : List Obj} {pl : Nat} (h : Room H pl) (o : Obj) (j : Nat) (hj : j ≠ pl) : (putObj H pl o)[j]? = H[j]? := by
  rcases h with h | h
  · rw [putObj_get (rsv_lt h), if_neg hj]
  · subst h
    simp only [putObj, Nat.lt_irrefl, if_false]
    rcases Nat.lt_or_ge j H.length with e | e
    · rw [List.getElem?_append_left e]
    · rw [List.getElem?_eq_none e, List.getElem?_eq_none (by simp; omega)]

theorem put_le {H : List Obj} {pl : Nat} (o : Obj) : H.length ≤ (putObj H pl o).length := by
  unfold putObj
  split <;> simp

theorem put_lt {H : List Obj} {pl : Nat} (h : Room H pl) (o : Obj) : pl < (putObj H pl o).length := lt_of_some (put_self h o)

/-- a new object -/
theorem made (h : SR F c) {pl : Nat} (hpl : Room c.H pl) (k sz : Nat) (es : List (List AV)) (cells : Array Value) (elem : TypeId) (hk : cells.size = k * sz) (hle : es.length ≤ k)
    (hc : ∀ i (hi : i < es.length), es[i].length = sz ∧ ∀ j (hj : j < es[i].length), ∃ u, cells[i * sz + j]? = some u ∧ V c es[i][j] u) :
    ∃ d : Ctx, d.w = { c.w with heap := c.w.heap.push (.cells cells elem) } ∧ d.H = putObj c.H pl (.live .norm sz es) ∧ Went F c d ∧ d.ι pl = c.w.heap.size ∧ d.K pl = k := by
  have hnl : ∀ o : Obj, o ≠ .rsv → c.H[pl]? ≠ some o := by
    intro o ho e
    rcases hpl with h1 | h1
    · rw [h1] at e; injection e with e; exact ho e.symm
    · rw [h1] at e; simp at e
  obtain ⟨d, h1, h2, h3, h4, h5, h6, h7⟩ := upd h pl c.w.heap.size k .norm sz es cells elem { c.w with heap := c.w.heap.push (.cells cells elem) } (putObj c.H pl (.live .norm sz es))
    (put_le _) (put_self hpl _) (fun j hj => .inl (put_other hpl _ j hj))
    (hnl _ (by simp)) (fun nl0 sz0 es0 hs => (hnl _ (by simp) hs).elim) (by simp) (Same.push c.w cells elem c.w.drawn) (by simp) (fun b hb _ => by
      simp only [Array.getElem?_push]; rw [if_neg (by omega)])
    (by simp) (.inl rfl) (fun j nl0 sz0 es0 _ hs hbk he => (fresh_ne h hs hbk he).elim) hk hle hc
  exact ⟨d, h1, h2, ⟨h3, h4, h5⟩, h6, h7⟩

/-- a new variable -/
theorem made_var (h : SR F c) {pl : Nat} (hpl : Room c.H pl) (cs : List AV) (cells : Array Value) (elem : TypeId) (hPV : PV c cs cells) :
    ∃ d : Ctx, d.w = { c.w with heap := c.w.heap.push (.cells cells elem) } ∧ d.H = putObj c.H pl (.live .norm cs.length [cs]) ∧ Went F c d ∧
      V d (.pown pl 1 0 0) (.pointer (some ⟨c.w.heap.size, 0, none⟩)) := by
  obtain ⟨d, h1, h2, h3, h4, h5⟩ := made h hpl 1 cs.length [cs] cells elem (by rw [hPV.1]; simp) (by simp) (fun i hi => by
    have : i = 0 := by simp at hi; omega
    subst this
    refine ⟨rfl, fun j hj => ?_⟩
    have hj' : j < cells.size := by rw [hPV.1]; exact hj
    exact ⟨cells[j], by simp [hj'], hPV.2 j hj hj'⟩)
  refine ⟨d, h1, h2, h3, .pown _ _ _ _ _ ⟨by rw [Has, h2]; exact ⟨put_lt hpl _, by rw [put_self hpl]; simp⟩, _, rfl, rfl, fun nl sz es hs => ?_⟩⟩
  rw [h2, put_self hpl] at hs
  simp at hs
  obtain ⟨_, rfl, rfl⟩ := hs
  exact ⟨by simp, fun _ => by simp [h4]⟩

/-- a new slice -/
theorem made_slice (h : SR F c) {pl : Nat} (hpl : Room c.H pl) (k sz : Nat) (es : List (List AV)) (cells : Array Value) (elem : TypeId) (hk : cells.size = k * sz) (hle : es.length ≤ k)
    (hc : ∀ i (hi : i < es.length), es[i].length = sz ∧ ∀ j (hj : j < es[i].length), ∃ u, cells[i * sz + j]? = some u ∧ V c es[i][j] u) :
    ∃ d : Ctx, d.w = { c.w with heap := c.w.heap.push (.cells cells elem) } ∧ d.H = putObj c.H pl (.live .norm sz es) ∧ Went F c d ∧
      V d (.own pl es.length 0 es.length) (.slice (some ⟨c.w.heap.size, 0, none⟩) es.length k) := by
  obtain ⟨d, h1, h2, h3, h4, h5⟩ := made h hpl k sz es cells elem hk hle hc
  refine ⟨d, h1, h2, h3, .own _ _ _ _ _ ⟨by rw [Has, h2]; exact ⟨put_lt hpl _, by rw [put_self hpl]; simp⟩, ⟨_, _, rfl⟩, fun nl sz' es' hs => ?_⟩⟩
  rw [h2, put_self hpl] at hs
  simp at hs
  obtain ⟨rfl, rfl, rfl⟩ := hs
  exact ⟨by simp, fun _ => ⟨by simp, .inr ⟨by simp, k, by simp [h4], by simp [h5]⟩⟩⟩

/-- a new slice that is only read -/
theorem made_ro (h : SR F c) (sz k : Nat) (es : List (List AV)) (cells : Array Value) (elem : TypeId) (hle : es.length ≤ k)
    (hc : ∀ i (hi : i < es.length), es[i].length = sz ∧ ∀ j (hj : j < es[i].length), ∃ u, cells[i * sz + j]? = some u ∧ V c es[i][j] u) :
    ∃ d : Ctx, d.w = { c.w with heap := c.w.heap.push (.cells cells elem) } ∧ d.H = c.H ∧ Went F c d ∧ V d (.ro es) (.slice (some ⟨c.w.heap.size, 0, none⟩) es.length k) := by
  have hlt : ∀ b : Nat, (c.w.heap[b]?).isSome → b < c.w.heap.size := by
    intro b hs
    rcases Nat.lt_or_ge b c.w.heap.size with e | e
    · exact e
    · rw [Array.getElem?_eq_none e] at hs; simp at hs
  have hk : ∀ b : Nat, b < c.w.heap.size → (c.w.heap.push (Go.Obj.cells cells elem))[b]? = c.w.heap[b]? := fun b hb => by rw [Array.getElem?_push, if_neg (by omega)]
  let d : Ctx := ⟨{ c.w with heap := c.w.heap.push (.cells cells elem) }, c.O, c.ι, c.K, c.H⟩
  have hV : ∀ x v, V c x v → V d x v := fun x v hx => V.mono (c := c) (d := d) (fun b hb hs => ⟨hk b (hlt b hs), hb⟩) (fun _ _ _ _ _ h => h) (fun _ _ _ _ _ h => h) (fun _ _ _ _ _ _ h => h) hx
  have hOlt : ∀ b, c.O b → b < c.w.heap.size := by
    intro b hb
    rcases (h.hO b).1 hb with h1 | ⟨id, nl, sz0, es0, h1, h2, h3⟩
    · exact h.hF b h1
    · obtain ⟨cells0, elem0, g1, _⟩ := h.hr.back id nl sz0 es0 h1 h2
      rw [h3] at g1
      exact hlt b (by rw [g1]; rfl)
  have hSR : SR F d := by
    refine ⟨⟨?_, h.hr.inj⟩, h.hO, fun b hf => Nat.lt_of_lt_of_le (h.hF b hf) (by simp [d]), h.disj⟩
    intro id nl sz0 es0 h1 h2
    obtain ⟨cells0, elem0, g1, g2, g3, g4, g5⟩ := h.hr.back id nl sz0 es0 h1 h2
    have hb : c.ι id < c.w.heap.size := hlt _ (by rw [g1]; rfl)
    refine ⟨cells0, elem0, (hk _ hb).trans g1, g2, g3, g4, fun i hi => ⟨(g5 i hi).1, fun j hj => ?_⟩⟩
    obtain ⟨u, hu, hv⟩ := (g5 i hi).2 j hj
    exact ⟨u, hu, hV _ _ hv⟩
  refine ⟨d, rfl, rfl, ⟨hSR, hV, fun n => ⟨by simp [d], fun b hb _ => hk b hb, fun x v _ hx => hV x v hx, fun b ho => .inl ho, fun hn => hn, Same.push c.w cells elem c.w.drawn⟩⟩, ?_⟩
  refine .ro es ⟨c.w.heap.size, 0, none⟩ k sz (fun i j => (cells[i * sz + j]?).getD undef) hle (fun _ _ => ⟨rfl, fun ho => by have := hOlt _ ho; simp at this⟩) (fun i hi => (hc i hi).1) (fun i j hi hj => ?_) (fun i j hi hj => ?_)
  · obtain ⟨u, hu, _⟩ := (hc i hi).2 j hj
    simp [World.cell?, d, hu]
  · obtain ⟨u, hu, hv⟩ := (hc i hi).2 j hj
    rw [hu, Option.getD_some]
    exact hV _ _ hv

theorem run_newRow (e : TypeId) (cells : Array Value) (w : World) : (newRow e cells).run P w = .ok ⟨w.heap.size, 0, none⟩ { w with heap := w.heap.push (.cells cells e) } := rfl

/-- what a writing operation comes to -/
def Does (P : Program) (F : Nat → Prop) (c : Ctx) (a : Act) (o : Oper) (v : AV) (H' : List Obj) : Prop :=
  ∃ d : Ctx, d.H = H' ∧ Went F c d ∧ ((∃ v', (execOp a.eval o).run P c.w = .ok (.value v') d.w ∧ V d v v') ∨ ((execOp a.eval o).run P c.w = .ok .skip d.w ∧ v = .tup []))

theorem fillS_length (sz : Nat) : ∀ (ps : List (Nat × AV)) (es r : List (List AV)), fillS sz es ps = some r → r.length = es.length
  | [], es, r, h => by simp [fillS] at h; rw [h]
  | (i, v) :: ps, es, r, h => by
    simp only [fillS] at h
    split at h
    · rw [fillS_length sz ps _ r h]; simp
    · simp at h

/-- the elements of a row of cells -/
def Row (c : Ctx) (sz : Nat) (es : List (List AV)) (cells : Array Value) : Prop :=
  ∀ i (hi : i < es.length), es[i].length = sz ∧ ∀ j (hj : j < es[i].length), ∃ u, cells[i * sz + j]? = some u ∧ V c es[i][j] u

theorem foldl_set_get (vs : List Value) : ∀ (k : Nat) (acc : Array Value) (off q : Nat), off + k + vs.length ≤ acc.size →
    ((vs.zipIdx k).foldl (fun cs (x : Value × Nat) => cs.setIfInBounds (off + x.2) x.1) acc)[q]? =
      if off + k ≤ q ∧ q < off + k + vs.length then vs[q - (off + k)]? else acc[q]? := by
  induction vs with
  | nil => intro k acc off q _; rw [if_neg (by simp)]; rfl
  | cons v vs ih =>
    intro k acc off q h
    simp only [List.zipIdx_cons, List.foldl_cons]
    rw [ih (k + 1) _ off q (by simp at h ⊢; omega)]
    by_cases h1 : off + (k + 1) ≤ q ∧ q < off + (k + 1) + vs.length
    · rw [if_pos h1, if_pos (by simp; omega)]
      have : q - (off + k) = (q - (off + (k + 1))) + 1 := by omega
      rw [this]; simp
    · rw [if_neg h1]
      by_cases h2 : q = off + k
      · subst h2
        rw [if_pos (by simp)]
        have : off + k < acc.size := by simp at h; omega
        simp [this]
      · rw [if_neg (by simp; omega)]
        rw [Array.getElem?_setIfInBounds, if_neg (by omega)]

theorem Row.set {sz : Nat} {es : List (List AV)} {cells : Array Value} (h : Row c sz es cells) {i : Nat} (hi : i < es.length) {cs : List AV} {vs : Array Value} (hPV : PV c cs vs) (hlen : cs.length = sz)
    (hsz : es.length * sz ≤ cells.size) : Row c sz (es.set i cs) ((vs.toList.zipIdx).foldl (fun acc (x : Value × Nat) => acc.setIfInBounds (i * sz + x.2) x.1) cells) := by
  intro q hq
  simp at hq
  have hi2 : i * sz + sz ≤ es.length * sz := by
    have := Nat.mul_le_mul_right sz (show i + 1 ≤ es.length by omega)
    rw [Nat.add_mul, Nat.one_mul] at this; exact this
  have hvl : vs.toList.length = sz := by simp [hPV.1, hlen]
  by_cases hqi : i = q
  · subst hqi
    simp only [List.getElem_set_self]
    refine ⟨hlen, fun j hj => ?_⟩
    have hj' : j < vs.size := by rw [hPV.1]; exact hj
    refine ⟨vs[j], ?_, hPV.2 j hj hj'⟩
    rw [foldl_set_get _ _ _ _ _ (by omega), if_pos (by omega)]
    have : i * sz + j - (i * sz + 0) = j := by omega
    rw [this]; simp [hj']
  · have hg : (es.set i cs)[q]'(by simp; exact hq) = es[q] := by rw [List.getElem_set_ne hqi]
    obtain ⟨g1, g2⟩ := h q hq
    refine ⟨by rw [hg]; exact g1, fun j hj => ?_⟩
    have hj2 : j < es[q].length := by rw [hg] at hj; exact hj
    obtain ⟨u, hu, hv⟩ := g2 j hj2
    refine ⟨u, ?_, ?_⟩
    · rw [foldl_set_get _ _ _ _ _ (by omega), if_neg]
      · exact hu
      · have hjs : j < sz := by omega
        rintro ⟨a1, a2⟩
        rcases Nat.lt_or_ge q i with e | e
        · have := Nat.mul_le_mul_right sz (show q + 1 ≤ i by omega)
          rw [Nat.add_mul, Nat.one_mul] at this; omega
        · have := Nat.mul_le_mul_right sz (show i + 1 ≤ q by omega)
          rw [Nat.add_mul, Nat.one_mul] at this; omega
    · have : (es.set i cs)[q][j]'hj = es[q][j] := by simp only [hg]
      rw [this]; exact hv

theorem fillS_Row (sz : Nat) : ∀ (ps : List (Nat × AV)) (vs : List (Nat × Value)) (es : List (List AV)) (acc : Array Value) (r : List (List AV)),
    Row c sz es acc → es.length * sz ≤ acc.size → vs.length = ps.length → (∀ i (hi : i < ps.length) (hj : i < vs.length), vs[i].1 = ps[i].1 ∧ V c ps[i].2 vs[i].2) →
    fillS sz es ps = some r → ∃ acc', Instr.fill (fun i => some (i * sz, sz)) acc vs = some acc' ∧ Row c sz r acc' ∧ acc'.size = acc.size
  | [], [], es, acc, r, h, _, _, _, hf => by simp [fillS] at hf; subst hf; exact ⟨acc, rfl, h, rfl⟩
  | (i, x) :: ps, (i', v) :: vs, es, acc, r, h, hsz, hl, hv, hf => by
    simp only [fillS] at hf
    split at hf
    case isFalse => simp at hf
    rename_i hc
    obtain ⟨h1, h2, h3⟩ := hc
    obtain ⟨hp, hx⟩ := hv 0 (by simp) (by simp)
    simp only [List.getElem_cons_zero] at hp hx
    subst hp
    obtain ⟨hPV, _⟩ := cells_V hx h3
    have hvs : v.cells.size = sz := by rw [hPV.1]; exact h1
    have hi2 : i' * sz + sz ≤ es.length * sz := by
      have := Nat.mul_le_mul_right sz (show i' + 1 ≤ es.length by omega)
      rw [Nat.add_mul, Nat.one_mul] at this; exact this
    have hset := Row.set h h2 hPV h1 hsz
    have hsize : ((v.cells.toList.zipIdx).foldl (fun acc (x : Value × Nat) => acc.setIfInBounds (i' * sz + x.2) x.1) acc).size = acc.size := foldl_set_size _ _ _ _
    obtain ⟨acc', e1, e2, e3⟩ := fillS_Row sz ps vs (es.set i' x.cells) _ r hset (by simp only [List.length_set, hsize]; exact hsz) (by simpa using hl)
      (fun q hq hj => by have := hv (q + 1) (by simp; omega) (by simp; omega); simpa using this) hf
    refine ⟨acc', ?_, e2, by rw [e3, hsize]⟩
    simp only [Instr.fill]
    rw [if_neg]
    · rw [← Array.foldl_toList, Array.toList_zipIdx]; exact e1
    · simp only [Bool.or_eq_true, decide_eq_true_eq, not_or]
      refine ⟨by simp [hvs], by omega⟩
  | [], _ :: _, _, _, _, _, _, hl, _, _ => by simp at hl
  | _ :: _, [], _, _, _, _, _, hl, _, _ => by simp at hl

theorem range_mod_Row (zv : Array Value) (z : List AV) (sz n : Nat) (hPV : PV c z zv) (hlen : z.length = sz) :
    Row c sz (List.replicate n z) ((Array.range (n * sz)).map (zv[· % zv.size]!)) := by
  intro i hi
  simp at hi
  simp only [List.getElem_replicate]
  refine ⟨hlen, fun j hj => ?_⟩
  have hj' : j < zv.size := by rw [hPV.1]; exact hj
  have hs : zv.size = sz := by rw [hPV.1, hlen]
  have hlt : i * sz + j < n * sz := by
    have := Nat.mul_le_mul_right sz (show i + 1 ≤ n by omega)
    rw [Nat.add_mul, Nat.one_mul] at this; omega
  refine ⟨zv[j], ?_, hPV.2 j hj hj'⟩
  have hm : (i * sz + j) % sz = j := by
    rw [Nat.add_comm, Nat.add_mul_mod_self_right]; exact Nat.mod_eq_of_lt (by omega)
  simp [hlt, hs, hm]
  exact getElem!_pos zv j hj'

end
end Go.Am
