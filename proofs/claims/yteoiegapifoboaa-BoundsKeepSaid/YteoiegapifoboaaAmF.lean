/- The abstract machine's values and the program's: the relation between them, and that it stands while foreign memory changes. No condition. -/
import Derived.Test.YteoiegapifoboaaAmE2
import Derived.Laws.Sem
import Derived.Laws.Cells
import Derived.Laws.CopyRow
import Derived.Laws.Append
import Derived.Laws.StructEq
namespace Go.Am

structure Ctx where
  w : World
  O : Nat → Prop
  ι : Nat → Nat
  K : Nat → Nat
  H : List Obj

/-- there is an object, or was one -/
def Has (c : Ctx) (id : Nat) : Prop := id < c.H.length ∧ c.H[id]? ≠ some .rsv

def OW (c : Ctx) (id ext off len : Nat) (v : Value) : Prop :=
  Has c id ∧ (∃ a cap, v = .slice a len cap) ∧ ∀ nl sz es, c.H[id]? = some (.live nl sz es) → ext ≤ es.length ∧ (ext = es.length → off + len ≤ ext ∧
    ((nl = .nil ∧ es = [] ∧ v = .slice none 0 0) ∨ (¬(nl = .nil ∧ es = []) ∧ ∃ cap, v = .slice (some ⟨c.ι id, off * sz, none⟩) len cap ∧ off + cap = c.K id)))

def PO (c : Ctx) (id ext e o : Nat) (v : Value) : Prop :=
  Has c id ∧ ∃ a : Addr, v = .pointer (some a) ∧ a.spot = none ∧ ∀ nl sz es, c.H[id]? = some (.live nl sz es) → ext ≤ es.length ∧ (ext = es.length → a = ⟨c.ι id, e * sz + o, none⟩)

def AO (c : Ctx) (id ext e o len : Nat) (v : Value) : Prop :=
  Has c id ∧ ∃ a : Addr, (∃ cap, v = .slice (some a) len cap ∧ len ≤ cap) ∧ a.spot = none ∧ ∀ nl sz es, c.H[id]? = some (.live nl sz es) → ext ≤ es.length ∧ (ext = es.length → a = ⟨c.ι id, e * sz + o, none⟩)

inductive V (c : Ctx) : AV → Value → Prop where
  | any (v : Value) : V c .any v
  | bool (b : Bool) : V c (.bool b) (.bool b)
  | int (k : IntKind) (n : Int) : V c (.int k n) (.int k n)
  | str (s : List UInt8) : V c (.str s) (.string ⟨s.toArray⟩)
  | nilp : V c .nilp (.pointer none)
  | nils : V c .nils (.slice none 0 0)
  | nilf : V c .nilf .nilFunc
  | yld (l : Nat) : V c (.yld l) (.func (.yield l) #[] #[])
  | nili : V c .nili .nilIface
  | ro0 : V c (.ro []) (.slice none 0 0)
  | ro (es : List (List AV)) (a : Addr) (cap sz : Nat) (vs : Nat → Nat → Value) (hcap : es.length ≤ cap)
      (h1 : es ≠ [] → 0 < sz → a.spot = none ∧ ¬ c.O a.block) (h2 : ∀ i (hi : i < es.length), es[i].length = sz)
      (h3 : ∀ i j (hi : i < es.length), j < es[i].length → c.w.cell? ⟨a.block, a.off + i * sz + j, none⟩ = some (vs i j))
      (h4 : ∀ i j (hi : i < es.length) (hj : j < es[i].length), V c es[i][j] (vs i j)) : V c (.ro es) (.slice (some a) es.length cap)
  | pro (cs : List AV) (a : Addr) (vs : Nat → Value) (h1 : cs ≠ [] → a.spot = none ∧ ¬ c.O a.block)
      (h3 : ∀ j, j < cs.length → c.w.cell? ⟨a.block, a.off + j, none⟩ = some (vs j))
      (h4 : ∀ j (hj : j < cs.length), V c cs[j] (vs j)) : V c (.pro cs) (.pointer (some a))
  | own (id ext off len : Nat) (v : Value) (h : OW c id ext off len v) : V c (.own id ext off len) v
  | pown (id ext e o : Nat) (v : Value) (h : PO c id ext e o v) : V c (.pown id ext e o) v
  | arr (id ext e o sz len : Nat) (v : Value) (h : AO c id ext e o len v) : V c (.arr id ext e o sz len) v
  | agg (cs : List AV) (vs : Array Value) (hs : vs.size = cs.length) (h : ∀ i (hi : i < cs.length) (hj : i < vs.size), V c cs[i] vs[i]) : V c (.agg cs) (.agg vs)
  | tup (cs : List AV) (vs : Array Value) (hs : vs.size = cs.length) (h : ∀ i (hi : i < cs.length) (hj : i < vs.size), V c cs[i] vs[i]) : V c (.tup cs) (.tuple vs)
  | fn (f : Nat) (cap : List AV) (vs : Array Value) (hs : vs.size = cap.length) (h : ∀ i (hi : i < cap.length) (hj : i < vs.size), V c cap[i] vs[i]) :
      V c (.fn f cap) (.func (.func f) #[] vs)

theorem V.monoW {c d : Ctx} (hcell : ∀ (b o : Nat) (u : Value), ¬ c.O b → c.w.cell? ⟨b, o, none⟩ = some u → d.w.cell? ⟨b, o, none⟩ = some u ∧ ¬ d.O b)
    (hO : ∀ id ext off len v, OW c id ext off len v → OW d id ext off len v)
    (hP : ∀ id ext e o v, PO c id ext e o v → PO d id ext e o v)
    (hA : ∀ id ext e o len v, AO c id ext e o len v → AO d id ext e o len v)
    {x : AV} {v : Value} (h : V c x v) : V d x v := by
  induction h with
  | any v => exact .any v
  | bool b => exact .bool b
  | int k n => exact .int k n
  | str s => exact .str s
  | nilp => exact .nilp
  | nils => exact .nils
  | nilf => exact .nilf
  | yld l => exact .yld l
  | nili => exact .nili
  | ro0 => exact .ro0
  | ro es a cap sz vs hcap h1 h2 h3 h4 ih =>
    refine .ro es a cap sz vs hcap (fun hne hz => ⟨(h1 hne hz).1, ?_⟩) h2 (fun i j hi hj => ?_) ih
    · have h0 : 0 < es.length := List.length_pos_iff.2 hne
      have := h3 0 0 h0 (by rw [h2 0 h0]; omega)
      exact (hcell _ _ _ (h1 hne hz).2 this).2
    · have hz : 0 < sz := by rw [h2 i hi] at hj; omega
      exact (hcell _ _ _ (h1 (by intro e; simp [e] at hi) hz).2 (h3 i j hi hj)).1
  | pro cs a vs h1 h3 h4 ih =>
    refine .pro cs a vs (fun hne => ⟨(h1 hne).1, ?_⟩) (fun j hj => ?_) ih
    · exact (hcell _ _ _ (h1 hne).2 (h3 0 (List.length_pos_iff.2 hne))).2
    · exact (hcell _ _ _ (h1 (by intro e; simp [e] at hj)).2 (h3 j hj)).1
  | own id ext off len v h => exact .own _ _ _ _ _ (hO _ _ _ _ _ h)
  | pown id ext e o v h => exact .pown _ _ _ _ _ (hP _ _ _ _ _ h)
  | arr id ext e o sz len v h => exact .arr _ _ _ _ _ _ _ (hA _ _ _ _ _ _ h)
  | agg cs vs hs _ ih => exact .agg cs vs hs ih
  | tup cs vs hs _ ih => exact .tup cs vs hs ih
  | fn f cap vs hs _ ih => exact .fn f cap vs hs ih

/-- the relation stands while the memory of others changes -/
theorem V.mono {c d : Ctx} (hw : ∀ b, ¬ c.O b → (c.w.heap[b]?).isSome → d.w.heap[b]? = c.w.heap[b]? ∧ ¬ d.O b)
    (hO : ∀ id ext off len v, OW c id ext off len v → OW d id ext off len v)
    (hP : ∀ id ext e o v, PO c id ext e o v → PO d id ext e o v)
    (hA : ∀ id ext e o len v, AO c id ext e o len v → AO d id ext e o len v)
    {x : AV} {v : Value} (h : V c x v) : V d x v := by
  refine V.monoW ?_ hO hP hA h
  have hcell : ∀ (b o : Nat) (u : Value), ¬ c.O b → c.w.cell? ⟨b, o, none⟩ = some u → d.w.cell? ⟨b, o, none⟩ = some u ∧ ¬ d.O b := by
    intro b o u hb hc
    have hs : (c.w.heap[b]?).isSome := by
      unfold World.cell? at hc
      cases h : c.w.heap[b]? with
      | none => simp [h] at hc
      | some _ => rfl
    obtain ⟨e1, e2⟩ := hw b hb hs
    exact ⟨by rw [← hc]; simp [World.cell?, e1], e2⟩
  exact hcell

end Go.Am
