/- From a computation of the machine to a row: a law that comes out true at all arguments of its types' shapes returns true, and its arguments read as before. No condition. -/
import Derived.Test.YteoiegapifoboaaAmZ2
namespace Go.Am
open Go.ChangeShapes Go.WideShapes Go.RowKit

def ShVs (P : Program) (D : Nat) : List TypeId → List AV → Prop
  | [], [] => True
  | t :: ts, x :: xs => ShV P D t x ∧ ShVs P D ts xs
  | _, _ => False

section
variable {P : Program} {H : Type} {enc : TypeId × Value → H} {W : World}

theorem args_AV {D : Nat} {b : Nat} : ∀ (ts : List TypeId) (vs : List Value) (ds : List (DataW H)) (ps : List MemPlace), DataW.TrodAll enc P W 0 (fun _ => true) true ts vs ds ps →
    (∀ t ∈ ts, plainT P D t = true) → (∀ (j : Nat) t v, ts[j]? = some t → vs[j]? = some v → Value.okWide P W .any b t v) →
    ∃ xs, ShVs P D ts xs ∧ vs.length = xs.length ∧ ds.length = ts.length ∧ ∀ i (hi : i < xs.length) (hj : i < vs.length), V (base W) xs[i] vs[i]
  | [], [], [], _, _, _, _ => ⟨[], trivial, rfl, rfl, fun i hi => by simp at hi⟩
  | t :: ts, v :: vs, d :: ds, ps, h, hp, hok => by
    obtain ⟨p, q, h1, h2, _⟩ := h
    obtain ⟨x, x1, x2⟩ := Trod_ShV (hp t (by simp)) (hok 0 t v rfl rfl) h1
    obtain ⟨xs, y1, y2, y3, y4⟩ := args_AV ts vs ds q h2 (fun t' ht => hp t' (by simp [ht])) (fun j t' v' hj hv => hok (j + 1) t' v' (by simpa using hj) (by simpa using hv))
    refine ⟨x :: xs, ⟨x1, y1⟩, by simp [y2], by simp [y3], fun i hi hj => ?_⟩
    cases i with
    | zero => exact x2
    | succ i => exact y4 i (by simpa using hi) (by simpa using hj)

theorem trodAll_stays (hl : laidOutB P = true) {W' : World} {sp' : Nat → Bool} : ∀ (ts : List TypeId) (vs : List Value) (ds : List (DataW H)) (ps : List MemPlace), DataW.TrodAll enc P W 0 (fun _ => true) true ts vs ds ps →
    (∀ t ∈ ts, P.readableRec t = true ∧ t < P.types.size) → (∀ p ∈ ps, W.sameAt W' p) → (∀ p ∈ ps, sp' p.block = true) → DataW.TrodAll enc P W' 0 sp' true ts vs ds ps
  | [], [], [], _, h, _, _, _ => h
  | t :: ts, v :: vs, d :: ds, ps, h, ht, hs, hp => by
    obtain ⟨p, q, h1, h2, rfl⟩ := h
    refine ⟨p, q, WideElems.Trod_stays hl (ht t (by simp)).1 (ht t (by simp)).2 h1 (fun x hx => hs x (by simp [hx])) (fun x hx => hp x (by simp [hx])), ?_, rfl⟩
    exact trodAll_stays hl ts vs ds q h2 (fun t' h' => ht t' (by simp [h'])) (fun x hx => hs x (by simp [hx])) (fun x hx => hp x (by simp [hx]))

/-- 'post', for a law -/
theorem post_law {f : Func} {s : ChangeSpec} {apart fresh handsOn again : Bool} {W' : World} {args : Array Value} {ds : List (DataW H)} {before : List MemPlace} {tb : TypeId}
    (hW : DataW.Whole enc P f.params.toList s.vars apart W args.toList ds [] before) (hvars : s.vars = []) (hr : f.resultTypes = #[tb]) (htb : P.underlying tb = some .bool) (hl : laidOutB P = true)
    (hT : ∀ t ∈ f.params.toList, P.readableRec t = true ∧ t < P.types.size) (hsm : Same W W') (hsz : W.heap.size ≤ W'.heap.size) (hblk : ∀ b, b < W.heap.size → W'.heap[b]? = W.heap[b]?)
    (hspec : (s.fn H (ds ++ [])).results = [.lit (.bool true)] ∧ (s.fn H (ds ++ [])).args = ds ∧ (s.fn H (ds ++ [])).vars = []) :
    s.post enc P f apart fresh handsOn again W args (.bool true) W' := by
  have hW' := hW
  obtain ⟨p, q, hA, hV, rfl, hfz, hnd⟩ := hW'
  rw [hvars] at hV
  obtain ⟨_, rfl⟩ := trodVars_none hV
  have hb : Below W.heap.size W W' := ⟨hsm.os, hsm.tape, hsm.output, hsz, hblk⟩
  refine post_of_same (pa := p) (pv := []) hW (fun b sp hd => ?_) (fun sp hsp => ?_) (fun sp _ => ?_) rfl (hb.frame _) hsm.frz
    (ok_one hr rfl (okWide_bool_mk htb true))
  · rw [hspec.1, hr]
    exact trodAll_mk1 (shut_bool htb true)
  · rw [hspec.2.1]
    refine trodAll_stays hl _ _ _ _ hA hT (fun x hx => hb.same (hW.lt x (by simp [hx]))) (fun x hx => hsp x (by simp [hx]))
  · rw [hspec.2.2, hvars]
    exact rfl

theorem law_calls {E : Env} {hp : Nat → Bool} (henv : EnvOk P E) (hglob : ∀ c : Ctx, c.w = W → (∀ b, ¬ c.O b) → Glob c E.glob) {f : FuncId} {fn : Func} {s : ChangeSpec} {apart fresh handsOn again : Bool} {args : Array Value}
    {ds gs : List (DataW H)} {before : List MemPlace} {tb D b : Nat}
    (hval : ∀ (j : Nat) t v, fn.params[j]? = some t → args[j]? = some v → Value.okWide P W .any b t v)
    (hW : DataW.Whole enc P fn.params.toList s.vars apart W args.toList ds gs before) (hvars : s.vars = []) (hr : fn.resultTypes = #[tb]) (htb : P.underlying tb = some .bool) (hl : laidOutB P = true)
    (hT : ∀ t ∈ fn.params.toList, (P.readableRec t = true ∧ t < P.types.size) ∧ plainT P D t = true)
    (hspec : ∀ ds : List (DataW H), ds.length = fn.params.size → (s.fn H (ds ++ [])).results = [.lit (.bool true)] ∧ (s.fn H (ds ++ [])).args = ds ∧ (s.fn H (ds ++ [])).vars = [])
    (hlaw : ∀ xs, ShVs P D fn.params.toList xs → Pu E hp f xs (.bool true)) :
    Calls P f args W fun e W' => ∃ v, e = .returned v ∧ s.post enc P fn apart fresh handsOn again W args v W' := by
  have hgs : gs = [] := by
    obtain ⟨_, _, _, hV, _⟩ := hW
    rw [hvars] at hV
    exact (trodVars_none hV).1
  subst hgs
  obtain ⟨p, q, hA, _⟩ := id hW
  obtain ⟨xs, x1, x2, x3, x4⟩ := args_AV (D := D) (b := b) _ _ _ _ hA (fun t ht => (hT t ht).2) (fun j t v hj hv => hval j t v (by simpa using hj) (by simpa using hv))
  have hc := (hlaw xs x1).calls henv (c := base W) (fun b h => h) rfl (hglob _ rfl fun b h => h) x2 x4
  have e0 : args.toList.toArray = args := by simp
  rw [e0] at hc
  refine hc.mono ?_
  rintro e W' ⟨v, rfl, ⟨hsz, hsm⟩, hblk, _, hres⟩
  have hv := hres ⟨W', fun _ => False, id, id, []⟩ rfl (fun b h => h)
  cases hv
  exact ⟨_, rfl, post_law hW hvars hr htb hl (fun t ht => (hT t ht).1) hsm hsz hblk (hspec ds (by simpa using x3))⟩

theorem glob_nil (c : Ctx) : Glob c (fun _ => []) := fun g => .pro [] _ (fun _ => undef) (fun h => absurd rfl h) (fun j hj => by simp at hj) (fun j hj => by simp at hj)

end
end Go.Am
