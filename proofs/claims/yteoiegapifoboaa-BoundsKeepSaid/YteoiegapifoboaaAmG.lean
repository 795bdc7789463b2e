/- Operations that read: what the abstract machine says of them, the program's run does. Conditions: the relation of the values and of the heap. -/
import Derived.Test.YteoiegapifoboaaAmF
namespace Go.Am

structure HR (c : Ctx) : Prop where
  back : ∀ id nl sz es, c.H[id]? = some (.live nl sz es) → ¬(nl = .nil ∧ es = []) →
    ∃ cells elem, c.w.heap[c.ι id]? = some (.cells cells elem (0, 0)) ∧ cells.size = c.K id * sz ∧ es.length ≤ c.K id ∧ c.O (c.ι id) ∧
      ∀ i (hi : i < es.length), es[i].length = sz ∧ ∀ j (hj : j < es[i].length), ∃ u, cells[i * sz + j]? = some u ∧ V c es[i][j] u
  inj : ∀ id id' nl sz es nl' sz' es', c.H[id]? = some (.live nl sz es) → ¬(nl = .nil ∧ es = []) → c.H[id']? = some (.live nl' sz' es') → ¬(nl' = .nil ∧ es' = []) →
    c.ι id = c.ι id' → id < id' → nl.old = true ∧ nl'.kid = true ∧ sz = sz' ∧ es.length ≤ es'.length

def TR (c : Ctx) (t : List AV) (ts : Array Value) : Prop := ts.size = t.length ∧ ∀ i (h : i < t.length) (h' : i < ts.size), V c t[i] ts[i]

def Glob (c : Ctx) (G : Nat → List AV) : Prop := ∀ g, V c (.pro (G g)) (.pointer (some ⟨g, 0, none⟩))

theorem simple_V (c : Ctx) (v : Value) : V c (simple v) v := by
  unfold simple
  split
  · exact .bool _
  · exact .int _ _
  · rename_i s; exact .str s.data.toList
  · exact .nilp
  · exact .nils
  · exact .nilf
  · exact .nili
  · exact .any _

theorem ofValue_V (c : Ctx) (v : Value) : V c (ofValue v) v := by
  cases v with
  | agg cs =>
    refine .agg _ _ (by simp) fun i hi hj => ?_
    simp only [List.getElem_map, Array.getElem_toList]
    exact simple_V c _
  | bool b => exact .bool b
  | int k n => exact .int k n
  | string s => exact .str s.data.toList
  | pointer p => exact simple_V c (.pointer p)
  | slice p l k => exact simple_V c (.slice p l k)
  | nilFunc => exact .nilf
  | nilIface => exact .nili
  | _ => exact .any _

theorem ev_V {c : Ctx} {G : Nat → List AV} {t : List AV} {a : Act} (ht : TR c t a.tmps) (hg : Glob c G) (x : Operand) : V c ((cx x).ev G t) (a.eval x) := by
  cases x with
  | tmp n =>
    simp only [cx, RX.ev, Act.eval]
    by_cases h : n < t.length
    · have h' : n < a.tmps.size := by rw [ht.1]; exact h
      rw [List.getD_eq_getElem?_getD, List.getElem?_eq_getElem h, Option.getD_some, Array.getD_eq_getD_getElem?, Array.getElem?_eq_getElem h', Option.getD_some]
      exact ht.2 n h h'
    · rw [List.getD_eq_getElem?_getD, List.getElem?_eq_none (Nat.le_of_not_lt h), Option.getD_none]
      exact .any _
  | const v => exact ofValue_V c v
  | global g => exact hg g
  | func f => exact .fn f [] #[] rfl fun i hi => by simp at hi

section
variable {P : Program} {c : Ctx}

theorem run_under {t : TypeId} {d : TypeDesc} (h : P.underlying t = some d) (w : World) : (underlying t).run P w = .ok d w := run_underlying h w

theorem run_szOf {t : TypeId} {n : Nat} (h : szOf P t = some n) (w : World) : (sizeOf t).run P w = .ok n w := by
  unfold szOf at h
  split at h
  · rename_i i hi
    injection h with h
    simp [sizeOf, typeInfo, hi, h]
  · simp at h

theorem run_agOf {t : TypeId} {b : Bool} (h : agOf P t = some b) (w : World) : (isAgg t).run P w = .ok b w := by
  unfold agOf at h
  unfold isAgg
  split at h
  · rename_i fs hu; injection h with h; simp [run_under hu, ← h]
  · rename_i n e hu; injection h with h; simp [run_under hu, ← h]
  · rename_i d hn1 hn2 hu
    injection h with h
    simp only [Sem.run_bind, run_under hu, Result.andThen_ok]
    cases d <;> first | (simp [← h]; done) | (exfalso; exact hn1 _ hu) | (exfalso; exact hn2 _ _ hu)
  · simp at h

theorem add_eq (b o n : Nat) : (⟨b, o, none⟩ : Addr).add n = ⟨b, o + n, none⟩ := by
  unfold Addr.add; split <;> simp_all

/-- n cells from a place on, as a part -/
theorem run_loadPart {t : TypeId} {n : Nat} {ag : Bool} (hn : szOf P t = some n) (ha : agOf P t = some ag) {cs : List AV} {o : Nat} {x : AV} (hp : part n ag cs o = some x)
    {b off : Nat} (vs : Nat → Value) (h3 : ∀ j, j < cs.length → c.w.cell? ⟨b, off + j, none⟩ = some (vs j)) (h4 : ∀ j (hj : j < cs.length), V c cs[j] (vs j)) :
    ∃ v, (loadVar t ⟨b, off + o, none⟩).run P c.w = .ok v c.w ∧ V c x v := by
  unfold part at hp
  cases ag with
  | true =>
    simp only [if_true] at hp
    split at hp
    · rename_i hle
      injection hp with hp
      subst hp
      have hl := run_loadCells (P := P) c.w ⟨b, off + o, none⟩ n (fun j => vs (o + j)) (fun j hj => by
        rw [add_eq, Nat.add_assoc]; exact h3 (o + j) (by omega))
      refine ⟨_, by unfold loadVar; simp only [Sem.run_bind, run_agOf ha, Result.andThen_ok, if_true, run_szOf hn, hl]; rfl, ?_⟩
      refine .agg _ _ (by simp; omega) fun i hi hj => ?_
      simp only [List.getElem_take, List.getElem_drop]
      simp at hj
      simpa using h4 (o + i) (by omega)
    · simp at hp
  | false =>
    simp only [Bool.false_eq_true, if_false] at hp
    obtain ⟨ho, rfl⟩ := List.getElem?_eq_some_iff.1 hp
    refine ⟨vs o, ?_, h4 o ho⟩
    unfold loadVar
    simp only [Sem.run_bind, run_agOf ha, Result.andThen_ok, Bool.false_eq_true, if_false, run_load, h3 o ho]

theorem getLive_some {H : List Obj} {id sz : Nat} {es : List (List AV)} (h : getLive H id = some (sz, es)) : ∃ nl, H[id]? = some (.live nl sz es) := by
  unfold getLive at h
  split at h
  · rename_i nl sz' es' he; simp at h; obtain ⟨rfl, rfl⟩ := h; exact ⟨nl, he⟩
  · simp at h

/-- the cells of an element -/
theorem elem_cells (hr : HR c) {id : Nat} {nl : Fl} {sz : Nat} {es : List (List AV)} (h : c.H[id]? = some (.live nl sz es)) {e : Nat} (he : e < es.length) :
    ∃ vs : Nat → Value, es[e].length = sz ∧ (∀ j, j < es[e].length → c.w.cell? ⟨c.ι id, e * sz + j, none⟩ = some (vs j)) ∧ ∀ j (hj : j < es[e].length), V c es[e][j] (vs j) := by
  obtain ⟨cells, elem, h1, _, _, _, h5⟩ := hr.back id nl sz es h (by rintro ⟨_, rfl⟩; simp at he)
  obtain ⟨h6, h7⟩ := h5 e he
  refine ⟨fun j => (cells[e * sz + j]?).getD undef, h6, fun j hj => ?_, fun j hj => ?_⟩
  · obtain ⟨u, hu, _⟩ := h7 j hj
    simp [World.cell?, h1, hu]
  · obtain ⟨u, hu, hv⟩ := h7 j hj
    simpa [hu] using hv

theorem load_V (hr : HR c) {t : TypeId} {n : Nat} {ag : Bool} (hn : szOf P t = some n) (ha : agOf P t = some ag) {p x : AV} {pv : Value} (hp : V c p pv)
    (h : loadAt c.H n ag p = some x) : ∃ v, (Instr.loadAt t pv).run P c.w = .ok v c.w ∧ V c x v := by
  unfold loadAt at h
  split at h
  · rename_i cs
    cases hp with
    | pro _ a vs h1 h3 h4 =>
      by_cases hc : cs = []
      · subst hc
        unfold part at h
        cases ag with
        | true =>
          simp only [if_true] at h
          split at h
          · rename_i hle
            simp at hle
            subst hle
            injection h with h
            subst h
            refine ⟨.agg #[], ?_, .agg _ _ (by simp) fun i hi => by simp at hi⟩
            simp [Instr.loadAt, Instr.sureAddr, loadVar, run_agOf ha, run_szOf hn, loadCells, loadCellsFrom]
          · simp at h
        | false => simp at h
      · obtain ⟨hs, _⟩ := h1 hc
        obtain ⟨v, hv, hV⟩ := run_loadPart (P := P) hn ha h vs h3 h4
        refine ⟨v, ?_, hV⟩
        have : a = ⟨a.block, a.off + 0, none⟩ := by cases a; simp at hs ⊢; exact hs
        rw [this]
        simp only [Instr.loadAt, Instr.sureAddr, Sem.run_bind, Sem.run_pure, Result.andThen_ok]
        exact hv
  · rename_i id ext e o
    split at h
    · rename_i sz es hl
      obtain ⟨nl, hid⟩ := getLive_some hl
      split at h
      · rename_i hext
        split at h
        · rename_i cs hcs
          obtain ⟨he, rfl⟩ := List.getElem?_eq_some_iff.1 hcs
          cases hp with
          | pown _ _ _ _ _ hpo =>
            obtain ⟨_, a, rfl, _, hpo⟩ := hpo
            have := (hpo nl _ es hid).2 hext
            subst this
            obtain ⟨vs, _, h3, h4⟩ := elem_cells hr hid he
            obtain ⟨v, hv, hV⟩ := run_loadPart (P := P) hn ha h vs h3 h4
            refine ⟨v, ?_, hV⟩
            simp only [Instr.loadAt, Instr.sureAddr, Sem.run_bind, Sem.run_pure, Result.andThen_ok]
            exact hv
        · simp at h
      · simp at h
    · simp at h
  · simp at h

theorem part_V {t : TypeId} {n : Nat} {ag : Bool} (hn : szOf P t = some n) (ha : agOf P t = some ag) {cs : List AV} {vs : Array Value} (hs : vs.size = cs.length)
    (hv : ∀ i (hi : i < cs.length) (hj : i < vs.size), V c cs[i] vs[i]) {o : Nat} {x : AV} (hp : Am.part n ag cs o = some x) (w : World) :
    ∃ v, (Go.part t vs o).run P w = .ok v w ∧ V c x v := by
  unfold Am.part at hp
  cases ag with
  | true =>
    simp only [if_true] at hp
    split at hp
    · rename_i hle
      injection hp with hp; subst hp
      refine ⟨.agg (vs.extract o (o + n)), by simp [Go.part, run_agOf ha, run_szOf hn], ?_⟩
      refine .agg _ _ (by simp; omega) fun i hi hj => ?_
      simp at hi hj
      simp only [List.getElem_take, List.getElem_drop, Array.getElem_extract]
      exact hv (o + i) (by omega) (by omega)
    · simp at hp
  | false =>
    simp only [Bool.false_eq_true, if_false] at hp
    obtain ⟨ho, rfl⟩ := List.getElem?_eq_some_iff.1 hp
    have ho' : o < vs.size := by omega
    refine ⟨vs[o], by simp [Go.part, run_agOf ha, Array.getElem?_eq_getElem ho'], hv o ho ho'⟩

theorem bin_V {op : BinOp} {x y r : AV} {xv yv : Value} (hx : V c x xv) (hy : V c y yv) (h : bin op x y = some r) (t : TypeId) (X Y : Operand) (w : World) :
    ∃ v, (eqGuard op t X Y xv yv >>= fun _ => binOp op t xv yv).run P w = .ok v w ∧ V c r v := by
  unfold bin at h
  split at h
  · rename_i k a k' b
    cases hx; cases hy
    have hg : (eqGuard op t X Y (.int k a) (.int k' b)).run P w = .ok () w := by
      unfold eqGuard; cases op <;> rfl
    simp only [Sem.run_bind, hg, Result.andThen_ok]
    have hint : ∀ op, (op = .shl → False) → (op = .shr → False) → (if k = k' then binI op k a b else none) = some r →
        ∃ v, (binOp op t (.int k a) (.int k' b)).run P w = .ok v w ∧ V c r v := by
      intro op n1 n2 h
      split at h
      · rename_i hk; subst hk
        cases op <;> simp only [binI] at h <;> first
          | exact (n1 rfl).elim
          | exact (n2 rfl).elim
          | (injection h with h; subst h
             first
               | (refine ⟨_, ?_, V.int _ _⟩; simp only [binOp, ne_eq, not_true_eq_false, if_false]; rfl)
               | (refine ⟨_, ?_, V.bool _⟩; simp only [binOp, ne_eq, not_true_eq_false, if_false]; rfl))
          | (split at h
             · simp at h
             · rename_i hb; injection h with h; subst h
               refine ⟨_, ?_, V.int _ _⟩
               simp only [binOp, ne_eq, not_true_eq_false, if_false, Op.intDiv, hb]
               rfl)
      · simp at h
    split at h
    · split at h
      · simp at h
      · rename_i hb; injection h with h; subst h; refine ⟨_, ?_, V.int _ _⟩; simp [binOp, Op.shift, hb]
    · split at h
      · simp at h
      · rename_i hb; injection h with h; subst h; refine ⟨_, ?_, V.int _ _⟩; simp [binOp, Op.shift, hb]
    · rename_i n1 n2
      exact hint op n1 n2 h
  · rename_i a b
    cases hx; cases hy
    have hg : (eqGuard op t X Y (.string ⟨a.toArray⟩) (.string ⟨b.toArray⟩)).run P w = .ok () w := by
      unfold eqGuard; cases op <;> rfl
    simp only [Sem.run_bind, hg, Result.andThen_ok]
    have e : ∀ l : List UInt8, (⟨l.toArray⟩ : ByteArray).toList = l := fun l => by rw [ByteArray.toList_eq]
    cases op
    case add =>
      simp only [binS] at h
      split at h
      · rename_i hb
        injection h with h; subst h
        refine ⟨_, ?_, V.str _⟩
        have h1 : ¬ (((ByteArray.size ⟨a.toArray⟩ + ByteArray.size ⟨b.toArray⟩ : Nat) : Int) > IntKind.i64.max) := by
          have e1 : ByteArray.size ⟨a.toArray⟩ = a.length := by simp [ByteArray.size]
          have e2 : ByteArray.size ⟨b.toArray⟩ = b.length := by simp [ByteArray.size]
          have h2 : IntKind.i64.max = 9223372036854775807 := by decide
          have h3 : (2:Nat)^40 = 1099511627776 := by decide
          rw [e1, e2, h2]
          omega
        simp only [binOp, Op.stringOp]
        rw [if_neg h1]
        simp only [Sem.run_pure]
        congr 2
      · simp at h
    all_goals first
      | (injection h with h; subst h; refine ⟨_, ?_, V.bool _⟩; simp [binOp, Op.stringOp, e]; done)
      | (simp [binS] at h; done)
  · simp at h

end
end Go.Am
