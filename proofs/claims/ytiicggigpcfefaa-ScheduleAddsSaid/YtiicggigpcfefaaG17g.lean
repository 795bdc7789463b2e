/- The function that schedule.slots yields with does yield what the plain law says, whatever is done with it. No condition. -/
import Derived.Test.YtiicggigpcfefaaG17v
import Derived.Test.YtiicggigpcfefaaG17w
import Derived.Test.YtiicggigpcfefaaAmGn
import Derived.Test.YtiicggigpcfefaaAmP1
namespace G17
open Go.Proofs Go Go.Pl Go.Am Go.Am.As
set_option maxRecDepth 100000
theorem envB : EnvOk Try.prog B.E0 := ⟨fns_ok, fun _ => rfl, fun _ _ _ h => nomatch h⟩
/-- the loop's round -/
def LB (C3 C4 C5 C6 C7 C9 C10 C11 : Code) (OPS : Array Oper) : Code := .seq C3 (.seq C4 (.seq (.block 1 (.seq C5 (.seq C6 (.seq C7 (.seq (.seq (.region 6 OPS false) C9) C10))))) C11))
/-- the function's code, in pieces -/
structure Pcs (C1 C2 C3 C4 C5 C6 C7 C9 C10 C11 : Code) (OPS : Array Oper) : Prop where
  body : Try.f70.body = some (.seq C1 (.seq C2 (.block 0 (.loop (LB C3 C4 C5 C6 C7 C9 C10 C11 OPS)))))
  k1 : comp Try.prog L17.h70 C1 = B.R1
  k2 : comp Try.prog L17.h70 C2 = B.R2
  k3 : comp Try.prog L17.h70 C3 = B.R3
  k4 : comp Try.prog L17.h70 C4 = B.R4
  k5 : comp Try.prog L17.h70 C5 = B.R5
  k6 : comp Try.prog L17.h70 C6 = B.R6
  k7 : comp Try.prog L17.h70 C7 = B.R7
  k9 : comp Try.prog L17.h70 C9 = B.R9
  k10 : comp Try.prog L17.h70 C10 = B.R10
  k11 : comp Try.prog L17.h70 C11 = B.R11
  k8 : OPS.toList.map (compOper Try.prog OPS) = B.O8
  size8 : OPS.size = 8
  op6 : ∃ o cl, OPS[6]? = some o ∧ o.guard = none ∧ o.op = .call cl ∧ cl.callee = .value (.tmp 26) ∧ cl.args = #[.tmp 27, .tmp 31] ∧ o.dst = some 32
theorem pcs : ∃ C1 C2 C3 C4 C5 C6 C7 C9 C10 C11 OPS, Pcs C1 C2 C3 C4 C5 C6 C7 C9 C10 C11 OPS := by
  refine ⟨_, _, _, _, _, _, _, _, _, _, _, ⟨rfl, ?_, ?_, ?_, ?_, ?_, ?_, ?_, ?_, ?_, ?_, ?_, ?_, ?_⟩⟩
  all_goals first | kernel_rfl | exact ⟨_, _, rfl, rfl, rfl, rfl, rfl, rfl⟩

def hT (lid : Nat) (l : List SStep) (p : List STravel) (k : Int) : As.T := ⟨36, [(0, .yld lid), (2, .pro [.ro (p.map cSTravel)]), (4, .pown 0 1 0 0), (10, .ro (l.map cSStep)), (11, .int .i64 (l.length : Int)), (12, .int .i64 k)]⟩
def bx (s : SSpan) : Am.Obj := .live .norm 2 [[.int .i64 s.Low, .int .i64 s.High]]

theorem idx70 {α : Type} {l : List α} {k : Nat} {x : α} (h : l[k]? = some x) : idx l (k : Int) = some x := by
  unfold idx
  rw [if_pos (by omega)]
  simpa using h

section
variable {lid : Nat} {l : List SStep} {p : List STravel} {ys : List (List AV)} {J : Nat → Bool → (Nat → Prop) → (Nat → Prop) → World → Prop}

/-- what the frame keeps from round to round -/
def Inv (lid : Nat) (l : List SStep) (p : List STravel) (J : Nat → Bool → (Nat → Prop) → (Nat → Prop) → World → Prop) (k : Nat) (st : Bool) (τ : As.T) (H : List Am.Obj) (a : Act) (w : World) : Prop :=
  ∃ (O : Nat → Prop) (c : Ctx) (Ds : List Nat), c.w = w ∧ FT O (fun _ => []) c τ H a Ds ∧ J k st (Mine c Ds) O w

def JStep (J : Nat → Bool → (Nat → Prop) → (Nat → Prop) → World → Prop) : Prop :=
  ∀ k st G O w G' w', J k st G O w → Moved G w w' → (∀ b, G' b → G b ∨ w.heap.size ≤ b) → (∀ b, G' b → b < w'.heap.size) → J k st G' O w'

theorem Inv.piece (hJ : JStep J) {k : Nat} {st : Bool} {τ : As.T} {H : List Am.Obj} {a : Act} {w : World} (h : Inv lid l p J k st τ H a w) {code : Code} {rc : RC} (hc : comp Try.prog L17.h70 code = rc)
    {N : As.ST → Prop} {X : Nat → As.ST → Prop} {R : As.ST → Prop} (hw : W B.E0 hp rc 0 N X R ⟨τ, H⟩) {Q : Exit → Act → World → Prop}
    (hn : ∀ a' w' σ, N σ → Inv lid l p J k st σ.tmps σ.H a' w' → Q .normal a' w') (hx : ∀ i a' w' σ, X i σ → Inv lid l p J k st σ.tmps σ.H a' w' → Q (.exit i) a' w')
    (hr : ∀ a' w' σ, R σ → Inv lid l p J k st σ.tmps σ.H a' w' → Q .ret a' w') : code.wpIn (wd none) 0 Try.prog Q a w := by
  obtain ⟨O, c, Ds, rfl, ft, hj⟩ := h
  refine FT.piece envB ft hc hw fun d a' e σ Ds' ft' hf hD q => ?_
  obtain ⟨m1, m2, m3⟩ := mine_step ft ft' hf hD
  have hi : Inv lid l p J k st σ.tmps σ.H a' d.w := ⟨O, d, Ds', rfl, ft', hJ _ _ _ _ _ _ _ hj m1 m2 m3⟩
  cases e with
  | normal => exact hn _ _ _ q hi
  | exit i => exact hx i _ _ _ q hi
  | ret => exact hr _ _ _ q hi

theorem Inv.ghost (hJ : JStep J) {k : Nat} {st : Bool} {τ : As.T} {H : List Am.Obj} {a : Act} {w : World} (h : Inv lid l p J k st τ H a w) {gs : List GA} {σ : As.ST} (hg : ghostsT 0 gs ⟨τ, H⟩ = some σ) :
    Inv lid l p J k st σ.tmps σ.H a w := by
  obtain ⟨O, c, Ds, rfl, ft, hj⟩ := h
  obtain ⟨d, Ds', h1, ft', hf, hD⟩ := FT.ghost envB ft hg
  obtain ⟨m1, m2, m3⟩ := mine_step ft ft' hf hD
  exact ⟨O, d, Ds', h1, ft', h1 ▸ hJ _ _ _ _ _ _ _ hj m1 m2 m3⟩

theorem Inv.leave (hJ : JStep J) {k : Nat} {st : Bool} {τ : As.T} {H : List Am.Obj} {a : Act} {w : World} (h : Inv lid l p J k st τ H a w) (hk : st = true ∨ k = ys.length) :
    LeavesInM Fence.wide 0 Try.prog Try.f70 a.tmps (fun e w' => (∃ v, e = .returned v) ∧ ∃ G O, J ys.length false G O w' ∨ ∃ k, J k true G O w') a.defers .returning w := by
  obtain ⟨O, c, Ds, rfl, ft, hj⟩ := h
  refine FT.leave ft rfl fun w' hm hs => ⟨⟨_, rfl⟩, Mine c Ds, O, ?_⟩
  have := hJ _ _ _ _ _ (Mine c Ds) _ hj hm (fun b h => .inl h) (fun b h => by rw [hs]; exact ft.lt b h)
  rcases hk with rfl | rfl
  · exact .inr ⟨_, this⟩
  · cases st with
    | true => exact .inr ⟨_, this⟩
    | false => exact .inl this

theorem rounds70 {C1 C2 C3 C4 C5 C6 C7 C9 C10 C11 : Code} {OPS : Array Oper} (hp : Pcs C1 C2 C3 C4 C5 C6 C7 C9 C10 C11 OPS) (hJ : JStep J)
    (hY : ∀ k (hk : k < ys.length) G O w (args : Array Value), J k false G O w → args.size = ys[k].length → (∀ i (hi : i < ys[k].length) (hj : i < args.size) c, V c ys[k][i] args[i]) →
      YieldAt Fence.wide 0 Try.prog lid args w fun e w' => ∃ O', Moved O w w' ∧ (∀ b, O' b → O b ∨ w.heap.size ≤ b) ∧ (∀ b, O' b → b < w'.heap.size) ∧
        ((e = .returned (.bool true) ∧ J (k + 1) false G O' w') ∨ (e = .returned (.bool false) ∧ J (k + 1) true G O' w')))
    (hll : l.length < 4611686018427387904) {Q : Exit → Act → World → Prop}
    (hend : ∀ τ H a w, Inv lid l p J ys.length false τ H a w → Q (.exit 0) a w) (hret : ∀ k τ H a w, Inv lid l p J k true τ H a w → Q .ret a w) :
    ∀ (r : List SStep) (k : Nat) (now : SSpan) (zs : List (Int × SSlot)), glgo70 p r k now = some zs → l.drop k = r → k ≤ l.length → ys.drop k = zs.map C70 → k ≤ ys.length → ∀ a w,
      Inv lid l p J k false (hT lid l p k) [bx now] a w → roundsIn (wd none) Try.prog (LB C3 C4 C5 C6 C7 C9 C10 C11 OPS) Q (r.length + 1) a w := by
  intro r
  induction r with
  | nil =>
    intro k now zs hz hd hkl hyd hky a w hi
    have hk : k = l.length := by
      have := List.drop_eq_nil_iff.1 hd; omega
    simp only [glgo70, Option.some.injEq] at hz
    subst hz
    have hk' : k = ys.length := by
      have := List.drop_eq_nil_iff.1 (show ys.drop k = [] from hyd); omega
    rw [roundsIn]
    refine wpIn_seq (Inv.piece hJ hi hp.k3 (B.w3 lid l p now k) ?_ (fun _ _ _ _ h => h.elim) (fun _ _ _ h => h.elim))
    rintro a1 w1 σ rfl h1
    have hdec : decide ((k : Int) < (l.length : Int)) = false := by simp; omega
    rw [hdec] at h1
    refine wpIn_seq (Inv.piece hJ h1 hp.k4 (B.w4f lid l p now k) (fun _ _ _ h => h.elim) ?_ (fun _ _ _ h => h.elim))
    rintro i a2 w2 σ ⟨rfl, rfl⟩ h2
    rw [hk'] at h2
    exact hend _ _ _ _ h2
  | cons x r ih =>
    intro k now zs hz hd hkl hyd hky a w hi
    have hlt : k < l.length := by
      rcases Nat.lt_or_ge k l.length with e | e
      · exact e
      · rw [List.drop_of_length_le e] at hd; simp at hd
    have hx : l[k]? = some x := by
      rw [List.drop_eq_getElem_cons hlt] at hd
      injection hd with h1 h2
      rw [List.getElem?_eq_getElem hlt, h1]
    have hd' : l.drop (k + 1) = r := by
      rw [List.drop_eq_getElem_cons hlt] at hd
      injection hd
    -- what is yielded
    simp only [glgo70] at hz
    cases e1 : m57 ⟨p⟩ x with
    | none => rw [e1] at hz; simp at hz
    | some mv =>
    cases e2 : m54 now mv with
    | none => rw [e1] at hz; simp [e2] at hz
    | some moved =>
    cases e3 : m56 moved x.Wait with
    | none => rw [e1] at hz; simp [e2, e3] at hz
    | some e =>
    cases e4 : glgo70 p r (k + 1) e with
    | none => rw [e1] at hz; simp [e2, e3, e4] at hz
    | some zs' =>
    rw [e1] at hz
    simp only [Option.bind_some, e2, e3, e4, Option.map_some, Option.some.injEq] at hz
    subst hz
    have hky' : k < ys.length := by
      rcases Nat.lt_or_ge k ys.length with e | e
      · exact e
      · rw [List.drop_of_length_le e] at hyd; simp at hyd
    have hy : ys[k] = C70 ((k : Int), ⟨now, moved, e⟩) ∧ ys.drop (k + 1) = zs'.map C70 := by
      rw [List.drop_eq_getElem_cons hky', List.map_cons] at hyd
      injection hyd with h1 h2
      exact ⟨h1, h2⟩
    rw [roundsIn]
    refine wpIn_seq (Inv.piece hJ hi hp.k3 (B.w3 lid l p now k) ?_ (fun _ _ _ _ h => h.elim) (fun _ _ _ h => h.elim))
    rintro a1 w1 σ rfl h1
    have hdec : decide ((k : Int) < (l.length : Int)) = true := by simp; omega
    rw [hdec] at h1
    refine wpIn_seq (Inv.piece hJ h1 hp.k4 (B.w4t lid l p now k) ?_ (fun _ _ _ _ h => h.elim) (fun _ _ _ h => h.elim))
    rintro a2 w2 σ rfl h2
    refine wpIn_seq (wpIn_block (wpIn_seq (Inv.piece hJ h2 hp.k5 (B.w5 lid l p now k x (by rw [idx70 hx]; rfl)) ?_ (fun _ _ _ _ h => h.elim) (fun _ _ _ h => h.elim))))
    rintro a3 w3 σ rfl h3
    refine wpIn_seq (Inv.piece hJ h3 hp.k6 (B.w6 lid l p now k x moved (by rw [e1]; simp [e2])) ?_ (fun _ _ _ _ h => h.elim) (fun _ _ _ h => h.elim))
    rintro a4 w4 σ rfl h4
    refine wpIn_seq (Inv.piece hJ h4 hp.k7 (B.w7 lid l p now k x moved e (by rw [e3]; rfl)) ?_ (fun _ _ _ _ h => h.elim) (fun _ _ _ h => h.elim))
    rintro a5 w5 σ rfl h5
    refine wpIn_seq (wpIn_seq (wpIn_region ?_))
    rw [hp.size8, show List.range 8 = [0, 1, 2, 3, 4, 5] ++ [6, 7] from rfl]
    obtain ⟨O, c, Ds, rfl, ft, hj⟩ := h5
    refine FT.ops envB ft hp.k8 [0, 1, 2, 3, 4, 5] [6, 7] (by rw [hp.size8]; decide) (os := B.O8.take 6) (by kernel_rfl) (B.w8 lid l p now k x moved e) ?_
    intro d a6 τ6 H6 Ds6 ft6 hf6 hD6 hs6
    obtain ⟨m1, m2, m3⟩ := mine_step ft ft6 hf6 hD6
    have hj6 := hJ _ _ _ _ _ _ _ hj m1 m2 m3
    injection hs6 with ht6 hH6
    subst ht6; subst hH6
    obtain ⟨o, cl, q1, q2, q3, q4, q5, q6⟩ := hp.op6
    have a27 := ft6.slot (.tmp 27)
    have a31 := ft6.slot (.tmp 31)
    refine FT.yield ft6 q1 q2 q3 q4 rfl (hY k hky' _ _ _ (cl.args.map a6.eval) hj6 (by rw [q5, hy.1, Array.size_map]; rfl) ?_) ?_
    · intro i hi hj' c'
      have hi2 : i < 2 := by rw [hy.1] at hi; exact hi
      have hel : ∀ (q : List AV) (hq : ys[k] = q) (hi' : i < q.length), ys[k][i] = q[i] := fun q hq hi' => by subst hq; rfl
      rw [hel _ hy.1 hi2]
      have har : ∀ (q : Array Operand) (hq : cl.args = q) (hi' : i < q.size), (cl.args.map a6.eval)[i] = a6.eval q[i] := fun q hq hi' => by subst hq; simp
      rw [har _ q5 hi2]
      match i, hi2 with
      | 0, _ => exact flat_V a27 rfl
      | 1, _ => exact flat_V a31 rfl
    rintro e' w' ⟨O', hm, hO1, hO2, hcase⟩
    rcases hcase with ⟨rfl, hj7⟩ | ⟨rfl, hj7⟩
    · refine ⟨_, rfl, ?_⟩
      rw [q6]
      have ft7 := (ft6.turn hm hO1 hO2).put (some 32) (V.bool true)
      refine FT.ops envB ft7 hp.k8 [7] [] (by rw [hp.size8]; decide) (os := B.O8.drop 7) (by kernel_rfl) (B.w8b lid l p now k x moved e true) ?_
      intro d7 a7 τ7 H7 Ds7 ft7' hf7 hD7 hs7
      obtain ⟨m1, m2, m3⟩ := mine_step ft7 ft7' hf7 hD7
      have hj8 := hJ _ _ _ _ _ _ _ hj7 m1 m2 m3
      injection hs7 with ht7 hH7
      subst ht7; subst hH7
      have h8 : Inv lid l p J (k + 1) false _ _ a7 d7.w := ⟨O', d7, Ds7, rfl, ft7', hj8⟩
      have h9 := h8.ghost hJ (gs := [.kill [5, 7, 26, 27, 28, 29, 30, 31, 32]]) (σ := ⟨⟨36, [(0, .yld lid), (2, .pro [.ro (p.map cSTravel)]), (4, .pown 0 1 0 0), (8, .pown 3 1 0 0), (10, .ro (l.map cSStep)), (11, .int .i64 (l.length : Int)), (12, .int .i64 (k : Int)), (33, .bool false)]⟩, [bx now, .live .norm 2 [[.ro (x.Strokes.map cSStroke), .int .i64 x.Wait]], bx moved, bx e]⟩) (by kernel_rfl)
      refine Inv.piece hJ h9 hp.k9 (B.w9f lid l p now k x moved e) ?_ (fun _ _ _ _ h => h.elim) (fun _ _ _ h => h.elim)
      rintro a8 w8 σ rfl h10
      refine Inv.piece hJ h10 hp.k10 (B.w10 lid l p now k x moved e) ?_ (fun _ _ _ _ h => h.elim) (fun _ _ _ h => h.elim)
      rintro a9 w9 σ rfl h11
      obtain ⟨σ, hg, hσ⟩ := W_ghost (B.wg lid l p e k x moved e)
      subst hσ
      have h12 := h11.ghost hJ hg
      refine Inv.piece hJ h12 hp.k11 (B.w11 lid l p e k) ?_ (fun _ _ _ _ h => h.elim) (fun _ _ _ h => h.elim)
      rintro a10 w10 σ rfl h13
      have hadd : addI .i64 (k : Int) 1 = ((k + 1 : Nat) : Int) := addI_nat (by omega)
      rw [hadd] at h13
      exact ih (k + 1) e zs' e4 hd' (by omega) hy.2 (by omega) _ _ h13
    · refine ⟨_, rfl, ?_⟩
      rw [q6]
      have ft7 := (ft6.turn hm hO1 hO2).put (some 32) (V.bool false)
      refine FT.ops envB ft7 hp.k8 [7] [] (by rw [hp.size8]; decide) (os := B.O8.drop 7) (by kernel_rfl) (B.w8b lid l p now k x moved e false) ?_
      intro d7 a7 τ7 H7 Ds7 ft7' hf7 hD7 hs7
      obtain ⟨m1, m2, m3⟩ := mine_step ft7 ft7' hf7 hD7
      have hj8 := hJ _ _ _ _ _ _ _ hj7 m1 m2 m3
      injection hs7 with ht7 hH7
      subst ht7; subst hH7
      have h8 : Inv lid l p J (k + 1) true _ _ a7 d7.w := ⟨O', d7, Ds7, rfl, ft7', hj8⟩
      have h9 := h8.ghost hJ (gs := [.kill [5, 7, 26, 27, 28, 29, 30, 31, 32]]) (σ := ⟨⟨36, [(0, .yld lid), (2, .pro [.ro (p.map cSTravel)]), (4, .pown 0 1 0 0), (8, .pown 3 1 0 0), (10, .ro (l.map cSStep)), (11, .int .i64 (l.length : Int)), (12, .int .i64 (k : Int)), (33, .bool true)]⟩, [bx now, .live .norm 2 [[.ro (x.Strokes.map cSStroke), .int .i64 x.Wait]], bx moved, bx e]⟩) (by kernel_rfl)
      refine Inv.piece hJ h9 hp.k9 (B.w9t lid l p now k x moved e) (fun _ _ _ h => h.elim) (fun _ _ _ _ h => h.elim) ?_
      rintro a8 w8 σ rfl h10
      exact hret _ _ _ _ _ h10

theorem gen_ok70 {n : Int} {zs : List (Int × SSlot)} (hz : gl70 n l p = some zs) : GenOk Try.prog (fun _ => []) 70 [.pro [.int .i64 n, .ro (l.map cSStep)], .pro [.ro (p.map cSTravel)]] (zs.map C70) := by
  intro w0 O0 vs ι K hvs hv hgl hO0 lid J hJ hY h0
  obtain ⟨C1, C2, C3, C4, C5, C6, C7, C9, C10, C11, OPS, hp⟩ := pcs
  refine (callsIn_wide (n := 0)).1 (callsIn_of_wp_marks Try.func70 hp.body trivial ?_)
  have hll : l.length < 4611686018427387904 := by
    unfold gl70 at hz
    cases e : decide (l.length < 4611686018427387904) with
    | true => simpa using e
    | false => rw [e] at hz; simp at hz
  have hz' : glgo70 p l 0 ⟨0, 0⟩ = some zs := by
    unfold gl70 at hz
    rw [show decide (l.length < 4611686018427387904) = true by simpa using hll] at hz
    exact hz
  have hJ' : JStep J := hJ
  have hno : ∀ b, ¬ Owned ([] : List Am.Obj) ι b := by rintro b ⟨id, nl, sz, es, h1, _⟩; simp at h1
  have hsr : SR O0 ⟨w0, O0, ι, K, []⟩ := ⟨⟨fun id nl sz es h1 => by simp at h1, fun id id' _ _ _ _ _ _ h1 => by simp at h1⟩, fun b => ⟨fun h => .inl h, fun h => h.elim (fun h => h) (fun h => (hno b h).elim)⟩, hO0, fun b h => (hno b h).elim⟩
  have hfr := entry_FR (E := B.E0) (rf := L17.r70) (fn := Try.f70) (c := ⟨w0, O0, ι, K, []⟩) hsr hgl (xs := [.yld lid, .pro [.int .i64 n, .ro (l.map cSStep)], .pro [.ro (p.map cSTravel)]]) (vs := .func (.yield lid) #[] #[] :: vs.toList) (by simp [hvs])
    (fun i hi hj => by
      cases i with
      | zero => exact .yld lid
      | succ i =>
        have := hv i (by simp at hi ⊢; omega) (by simpa using hj)
        simpa using this) rfl
  have hargs : (Value.func (.yield lid) #[] #[] :: vs.toList).toArray = #[Value.func (.yield lid) #[] #[]] ++ vs := by
    apply Array.ext'; simp
  rw [hargs] at hfr
  have h1 : Inv lid l p J 0 false ⟨36, [(0, .yld lid), (1, .pro [.int .i64 n, .ro (l.map cSStep)]), (2, .pro [.ro (p.map cSTravel)])]⟩ []
      { tmps := #[Value.func (.yield lid) #[] #[]] ++ vs ++ Array.replicate (Try.f70.ntmps - (#[Value.func (.yield lid) #[] #[]] ++ vs).size) undef, defers := [] } w0 := by
    refine ⟨O0, ⟨w0, O0, ι, K, []⟩, [], rfl, ⟨⟨_, As.start_rel (rf := L17.r70) (args := [.yld lid, .pro [.int .i64 n, .ro (l.map cSStep)], .pro [.ro (p.map cSTravel)]]) rfl (by decide), hfr.tr⟩, hsr, rfl, hgl, List.nodup_nil, rfl, fun D hD => by simp at hD⟩, ?_⟩
    exact hJ _ _ _ _ _ _ _ h0 ⟨Nat.le_refl _, fun _ _ _ => rfl, Same.refl _⟩ (fun b h => h.elim (fun h => (hno b h).elim) (fun h => by simp at h)) (fun b h => h.elim (fun h => (hno b h).elim) (fun h => by simp at h))
  refine wpIn_seq (Inv.piece hJ' h1 hp.k1 (B.w1 lid n l p) ?_ (fun _ _ _ _ h => h.elim) (fun _ _ _ h => h.elim))
  rintro a1 w1 σ rfl h2
  refine wpIn_seq (Inv.piece hJ' h2 hp.k2 (B.w2 lid n l p) ?_ (fun _ _ _ _ h => h.elim) (fun _ _ _ h => h.elim))
  rintro a2 w2 σ rfl h3
  refine wpIn_block (wpIn_loop_rounds (l.length + 1) ?_)
  refine rounds70 hp hJ' hY hll ?_ ?_ l 0 ⟨0, 0⟩ zs hz' rfl (Nat.zero_le _) rfl (Nat.zero_le _) _ _ h3
  · intro τ H a w hi
    exact Inv.leave hJ' hi (.inr rfl)
  · intro k τ H a w hi
    exact Inv.leave hJ' hi (.inl rfl)
end

theorem enter70 (args : Array Value) (w : World) : (callFunc 70 args).run Try.prog w = .ok (.enter 70 args) w := by
  obtain ⟨C1, C2, C3, C4, C5, C6, C7, C9, C10, C11, OPS, hp⟩ := pcs
  exact run_enter Try.func70 (by decide) hp.body args w

theorem env_ok : EnvOk Try.prog E0 := by
  refine ⟨fns_ok, fun _ => rfl, fun f cap ys h _ => ?_⟩
  obtain ⟨rfl, n, l, p, zs, rfl, hz, rfl⟩ := gen17_inv h
  exact ⟨enter70, gen_ok70 hz⟩
end G17
