/- The code of bounds computes its models. No condition. -/
import Derived.Test.YteoiegapifoboaaG11p0
import Derived.Test.YteoiegapifoboaaG11h
import Derived.Test.YteoiegapifoboaaAmP2
namespace G11
open Go hiding Obj mark
open Go.Pl Go.Am Go.Am.As
set_option linter.unusedVariables false

theorem W_lp {E : Env} {hp : Nat → Bool} {b : Nat} {N : ST → Prop} {X : Nat → ST → Prop} {R : ST → Prop} {s : ST} {p : RC} (I : ST → Prop) (m : ST → Nat) (h0 : I s) (h : ∀ s, I s → W E hp p b (fun s' => I s' ∧ m s' < m s) X R s) : W E hp (.loop p) b N X R s :=
  WP_loop I m h0 (fun s hs => WP.mono (h s hs) (fun e s' q => by cases e <;> exact q))

theorem W_call {f na nt : Nat} {rs : List (Sum Nat (Nat × Nat × Bool))} {body : RC} {xs : List AV} {H : List Obj} {K : AV → List Obj → Prop} (hfn : E0.fns f = some ⟨na, nt, rs, body⟩) (hf : hp f = true ∨ snaps H xs = none) (hn : xs.length = na) (hm : na ≤ nt)
    (h : W E0 hp body H.length (fun s' => ∃ l, resultsT rs s' = some l ∧ K (oneOf l) s'.H) (fun _ _ => False) (fun s' => ∃ l, resultsT rs s' = some l ∧ K (oneOf l) s'.H) ⟨⟨nt, T.puts xs 0⟩, H⟩) : WC E0 hp false f xs H K :=
  WC_inl hfn hf hn hm (WP.mono h (fun e s' q => by cases e <;> exact q))

/-- a call on the memory -/
theorem O_wc {f : Nat} {args : List RX} {xs : List AV} {d : Option Nat} {g : Option (Nat × Bool)} {os : List ROp} {t : T} {H : List Obj} {K : T → List Obj → Prop} (hw : wantT t g = some true) (ha : args.map (evT E0.glob t) = xs)
    (h : WC E0 hp false f xs H (fun v H' => WO E0 hp false os (putD t d v) H' K)) : WO E0 hp false (⟨d, g, .call f args⟩ :: os) t H K := by
  subst ha
  exact (WO_do hw).2 (WO_call.2 h)
theorem O_wcv {f : Nat} {cap : List AV} {x : RX} {args : List RX} {xs : List AV} {d : Option Nat} {g : Option (Nat × Bool)} {os : List ROp} {t : T} {H : List Obj} {K : T → List Obj → Prop} (hw : wantT t g = some true) (hx : evT E0.glob t x = .fn f cap) (ha : args.map (evT E0.glob t) ++ cap = xs)
    (h : WC E0 hp false f xs H (fun v H' => WO E0 hp false os (putD t d v) H' K)) : WO E0 hp false (⟨d, g, .callv x args⟩ :: os) t H K := by
  subst ha
  exact (WO_do hw).2 ((WO_callv hx).2 h)

/-- a truncation that has no effect -/
def NoT (b : Nat) (H : List Obj) : Prop := (Nat.blt b H.length && objsBel b (H.take b)) = false
theorem Gh_noT {b n : Nat} {gs : List GA} {s : ST} {N : ST → Prop} (h : NoT (b + n) s.H) (k : Gh b gs s N) : Gh b (.trunc n :: gs) s N := by
  refine Gh_one (s1 := s) ?_ k
  have hc : (Nat.blt (b + n) s.H.length && (T.bels (b + n) s.tmps && objsBel (b + n) (s.H.take (b + n)))) = false := by
    unfold NoT at h
    cases h1 : Nat.blt (b + n) s.H.length
    · rfl
    · rw [h1, Bool.true_and] at h
      rw [h, Bool.and_false]; rfl
  simp only [ghost1T, hc, Bool.false_eq_true, if_false]
theorem Gh_tr {b n : Nat} {gs : List GA} {s : ST} {N : ST → Prop} (P : List Obj → Prop) (h0 : P s.H) (h : NoT (b + n) s.H ∨ P (s.H.take (b + n))) (k : ∀ H', P H' → Gh b gs ⟨s.tmps, H'⟩ N) : Gh b (.trunc n :: gs) s N := by
  rcases h with h | h
  · exact Gh_noT h (k _ h0)
  cases hc : (Nat.blt (b + n) s.H.length && (T.bels (b + n) s.tmps && objsBel (b + n) (s.H.take (b + n)))) with
  | true =>
    refine Gh_one (s1 := ⟨s.tmps, s.H.take (b + n)⟩) ?_ (k _ h)
    simp only [ghost1T, hc, if_true]
  | false =>
    refine Gh_one (s1 := ⟨s.tmps, s.H⟩) ?_ (k _ h0)
    simp only [ghost1T, hc, Bool.false_eq_true, if_false]
theorem NoT.le {b : Nat} {H : List Obj} (h : H.length ≤ b) : NoT b H := by
  unfold NoT
  rw [show Nat.blt b H.length = false by cases hc : Nat.blt b H.length; rfl; rw [Nat.blt_eq] at hc; omega]; rfl

variable {E : Env} {hpx : Nat → Bool} {dr : Bool} {os : List ROp} {t : T} {H : List Obj} {K : T → List Obj → Prop} {g : Option (Nat × Bool)} {d : Option Nat}

/-- the memory, written out -/
theorem O_H (H' : List Obj) (hk : WO E hpx dr os t H' K) (h : H = H' := by kernel_rfl) : WO E hpx dr os t H K := by subst h; exact hk
/-- operations that leave the memory as it is -/
theorem O_q (k : Nat) (hk : WO E hpx dr (os.drop k) (runS E.glob k os t H).1 H K) (h : okS E.glob k os t H = true := by kernel_rfl) (e : (runS E.glob k os t H).2 = H := by kernel_rfl) : WO E hpx dr os t H K := by
  refine O_p k ?_ h
  rw [e]; exact hk
/-- a cell is read -/
theorem O_ldc {id ext e o sz : Nat} {fl : Fl} {es : List (List AV)} {cs : List AV} {v : AV} {x : RX} (hx : evT E.glob t x = .pown id ext e o) (hH : H[id]? = some (.live fl sz es)) (hl : ext = es.length) (he : es[e]? = some cs) (hc : cs[o]? = some v)
    (hk : WO E hpx dr os (putD t d v) H K) (hw : wantT t g = some true := by kernel_rfl) : WO E hpx dr (⟨d, g, .load 1 false x⟩ :: os) t H K := by
  refine O_op1 (v := v) (H1 := H) (fun hc => nomatch (show Kind.read = Kind.call from hc)) hw ?_ hk
  show (match loadAt H 1 false (evT E.glob t x) with | some v => some (v, H) | none => none) = _
  rw [hx]
  simp only [loadAt, getLive, hH, hl, if_true, he, Am.part, Bool.false_eq_true, if_false, hc]

def sqc (m : Nat → Nat → Int) : List AV := (List.range 169).map fun x => .i (m (x / 13) (x % 13))
abbrev sqo (n : Nat) (m : Nat → Nat → Int) : Obj := .lv 170 (.i n :: sqc m)
def up2 (m : Nat → Nat → Int) (i j : Nat) (v : Int) : Nat → Nat → Int := fun a b => if a = i ∧ b = j then v else m a b
theorem up2_eq {m : Nat → Nat → Int} {i j : Nat} {v : Int} : up2 m i j v i j = v := by simp [up2]
theorem up2_ne {m : Nat → Nat → Int} {i j a b : Nat} {v : Int} (h : ¬ (a = i ∧ b = j)) : up2 m i j v a b = m a b := by simp [up2, h]

theorem sqc_get {m : Nat → Nat → Int} {i j : Nat} (hi : i < 13) (hj : j < 13) : (sqc m)[i * 13 + j]? = some (.i (m i j)) := by
  unfold sqc
  rw [List.getElem?_map, List.getElem?_range (by omega)]
  show some (AV.i (m ((i * 13 + j) / 13) ((i * 13 + j) % 13))) = _
  rw [show (i * 13 + j) / 13 = i by omega, show (i * 13 + j) % 13 = j by omega]
theorem sqc_set {m : Nat → Nat → Int} {i j : Nat} {v : Int} (hi : i < 13) (hj : j < 13) : (sqc m).set (i * 13 + j) (.i v) = sqc (up2 m i j v) := by
  unfold sqc
  refine List.ext_getElem? (fun k => ?_)
  by_cases hk : k < 169
  · rw [List.getElem?_set, List.getElem?_map, List.getElem?_map, List.getElem?_range hk]
    by_cases e : i * 13 + j = k
    · subst e
      rw [if_pos rfl, if_pos (by simp; omega)]
      show _ = some (AV.i (up2 m i j v ((i * 13 + j) / 13) ((i * 13 + j) % 13)))
      rw [show (i * 13 + j) / 13 = i by omega, show (i * 13 + j) % 13 = j by omega, up2_eq]
    · rw [if_neg e]
      show some (AV.i (m (k / 13) (k % 13))) = some (AV.i (up2 m i j v (k / 13) (k % 13)))
      rw [up2_ne (by omega)]
  · rw [List.getElem?_eq_none (by simp; omega), List.getElem?_eq_none (by simp; omega)]
theorem sqc_bel (m : Nat → Nat → Int) : AV.bels 0 (sqc m) = true := by
  unfold sqc
  exact bels_arr (fun x => rfl) _

/-- an element of an array in memory -/
theorem O_ia {len sz id o i : Nat} {x ix : RX} (hx : evT E.glob t x = .po id o) (hi : evT E.glob t ix = .i (i : Int)) (h : i < len) (hk : WO E hpx dr os (putD t d (.po id (o + i * sz))) H K) (hw : wantT t g = some true := by kernel_rfl) :
    WO E hpx dr (⟨d, g, .iadA len sz x ix⟩ :: os) t H K := by
  refine WO_step (v := .po id (o + i * sz)) (H1 := H) (by simp [RO.kind]) hw ?_ hk
  simp only [ev1, evalOpe, RO.kind, evalPe, hx, hi, Am.iadA, Am.fad]
  rw [if_pos (by omega)]
  rfl
theorem O_sqn {id n : Nat} {m : Nat → Nat → Int} {x : RX} (hH : H[id]? = some (sqo n m)) (hk : WO E hpx dr os (putD t d (.i (n : Int))) H K) (hx : evT E.glob t x = .po id 0 := by kernel_rfl) (hw : wantT t g = some true := by kernel_rfl) :
    WO E hpx dr (⟨d, g, .load 1 false x⟩ :: os) t H K :=
  O_ldc (es := [.i n :: sqc m]) (cs := .i n :: sqc m) hx hH rfl rfl rfl hk hw
theorem O_sqld {id n i j d1 d2 d3 : Nat} {m : Nat → Nat → Int} {x ix iy : RX} (hi : i < 13) (hj : j < 13) (hH : H[id]? = some (sqo n m))
    (hk : WO E hpx dr os (((t.put d1 (.po id (1 + i * 13))).put d2 (.po id (1 + i * 13 + j * 1))).put d3 (.i (m i j))) H K)
    (hx : evT E.glob t x = .po id 1 := by kernel_rfl) (hix : evT E.glob t ix = .i (i : Int) := by kernel_rfl) (hiy : evT E.glob (t.put d1 (.po id (1 + i * 13))) iy = .i (j : Int) := by kernel_rfl)
    (e1 : evT E.glob (t.put d1 (.po id (1 + i * 13))) (.t d1) = .po id (1 + i * 13) := by kernel_rfl) (e2 : evT E.glob ((t.put d1 (.po id (1 + i * 13))).put d2 (.po id (1 + i * 13 + j * 1))) (.t d2) = .po id (1 + i * 13 + j * 1) := by kernel_rfl)
    (w1 : wantT t g = some true := by kernel_rfl) (w2 : wantT (t.put d1 (.po id (1 + i * 13))) g = some true := by kernel_rfl) (w3 : wantT ((t.put d1 (.po id (1 + i * 13))).put d2 (.po id (1 + i * 13 + j * 1))) g = some true := by kernel_rfl) :
    WO E hpx dr (⟨some d1, g, .iadA 13 13 x ix⟩ :: ⟨some d2, g, .iadA 13 1 (.t d1) iy⟩ :: ⟨some d3, g, .load 1 false (.t d2)⟩ :: os) t H K := by
  refine O_ia hx hix hi ?_ w1
  refine O_ia e1 hiy hj ?_ w2
  refine O_ldc e2 hH rfl rfl (v := .i (m i j)) ?_ hk w3
  rw [show 1 + i * 13 + j * 1 = (i * 13 + j) + 1 by omega, List.getElem?_cons_succ]
  exact sqc_get hi hj
theorem O_sqst {id n i j d1 d2 : Nat} {v : Int} {m : Nat → Nat → Int} {x ix iy y : RX} (hi : i < 13) (hj : j < 13) (hH : H[id]? = some (sqo n m))
    (hk : WO E hpx dr os ((t.put d1 (.po id (1 + i * 13))).put d2 (.po id (1 + i * 13 + j * 1))) (H.set id (sqo n (up2 m i j v))) K)
    (hx : evT E.glob t x = .po id 1 := by kernel_rfl) (hix : evT E.glob t ix = .i (i : Int) := by kernel_rfl) (hiy : evT E.glob (t.put d1 (.po id (1 + i * 13))) iy = .i (j : Int) := by kernel_rfl)
    (e1 : evT E.glob (t.put d1 (.po id (1 + i * 13))) (.t d1) = .po id (1 + i * 13) := by kernel_rfl) (e2 : evT E.glob ((t.put d1 (.po id (1 + i * 13))).put d2 (.po id (1 + i * 13 + j * 1))) (.t d2) = .po id (1 + i * 13 + j * 1) := by kernel_rfl)
    (e3 : evT E.glob ((t.put d1 (.po id (1 + i * 13))).put d2 (.po id (1 + i * 13 + j * 1))) y = .i v := by kernel_rfl) :
    WO E hpx dr (⟨some d1, none, .iadA 13 13 x ix⟩ :: ⟨some d2, none, .iadA 13 1 (.t d1) iy⟩ :: ⟨none, none, .store 1 (.t d2) y⟩ :: os) t H K := by
  refine O_ia hx hix hi ?_ rfl
  refine O_ia e1 hiy hj ?_ rfl
  refine WO_step (v := .tup []) (H1 := H.set id (sqo n (up2 m i j v))) (by simp [RO.kind]) rfl ?_ hk
  have e2' : evT E.glob (putD (putD t (some d1) (.po id (1 + i * 13))) (some d2) (.po id (1 + i * 13 + j * 1))) (.t d2) = .po id (1 + i * 13 + j * 1) := e2
  have e3' : evT E.glob (putD (putD t (some d1) (.po id (1 + i * 13))) (some d2) (.po id (1 + i * 13 + j * 1))) y = .i v := e3
  simp only [ev1, evalOpe, RO.kind, evalWe, e2', e3']
  simp only [storeAt, getLive, hH, nlAt, AV.cells, List.length_singleton]
  rw [if_pos ⟨trivial, trivial, by omega, rfl, rfl⟩]
  simp only [List.getElem?_cons_zero, List.set_cons_zero, putAt]
  rw [show 1 + i * 13 + j * 1 = (i * 13 + j) + 1 by omega, List.set_cons_succ, sqc_set hi hj]

theorem sq_self {id : Nat} {o o' : Obj} (h : H[id]? = some o) : (H.set id o')[id]? = some o' := by
  obtain ⟨hl, _⟩ := List.getElem?_eq_some_iff.1 h
  exact List.getElem?_set_self hl

/-- a function is called for all pairs -/
theorem each_eq {n id f : Nat} {cap : List AV} {H : List Obj} {K : AV → List Obj → Prop} (I : Nat → Nat → List Obj → Prop) (hn : n ≤ 13)
    (hs : ∀ i j H', I i j H' → ∃ m, H'[id]? = some (sqo n m)) (hT : ∀ i j H', I i j H' → NoT H.length H' ∨ I i j (H'.take H.length)) (h0 : I 0 0 H)
    (step : ∀ i j H' K', i < n → j < n → I i j H' → (∀ H'', I i (j + 1) H'' → K' (.tup []) H'') → WC E0 hp false f (.i (i : Int) :: .i (j : Int) :: cap) H' K')
    (next : ∀ i H', i < n → I i n H' → I (i + 1) 0 H') (hk : ∀ H', I n 0 H' → K (.tup []) H') : WC E0 hp false 56 [.po id 0, .fn f cap] H K := by
  refine W_call fn56 (.inr (snaps_none 0 rfl rfl)) rfl (by decide) ?_
  obtain ⟨m0, hm0⟩ := hs 0 0 H h0
  refine W_seq ?_
  refine W_gh ?_
  refine W_reg ?_
  refine O_p 3 ?_
  refine O_sqn hm0 ?_
  refine O_p 1 ?_
  refine O_nil ?_
  refine Gh_e ⟨⟨26, [(0, .po id 0), (1, .fn f cap), (9, .i (n : Int)), (10, .i ((0 : Nat) : Int))]⟩, H⟩ ?_
  refine W_gh (W_block ?_)
  refine W_lp (fun s' => ∃ (i : Nat) (H' : List Obj), s' = ⟨⟨26, [(0, .po id 0), (1, .fn f cap), (9, .i (n : Int)), (10, .i (i : Int))]⟩, H'⟩ ∧ i ≤ n ∧ I i 0 H') (fun s' => match s'.tmps.get 10 with | .int _ k => n - k.toNat | _ => 0) ⟨0, H, rfl, by omega, h0⟩ ?_
  rintro s' ⟨i, H1, rfl, hi, h1⟩
  refine W_gh ?_
  refine W_seq ?_
  refine W_reg ?_
  refine O_p 1 ?_
  refine O_nil ?_
  refine W_seq ?_
  refine W_gh ?_
  refine W_cond (c := decide ((i : Int) < (n : Int))) (by kernel_rfl) (fun c => ?_) (fun c => ?_)
  · have c3 : i < n := by have := of_decide_eq_true c; omega
    refine W_skip ?_
    refine Gh_e ⟨⟨26, [(0, .po id 0), (1, .fn f cap), (9, .i (n : Int)), (10, .i (i : Int))]⟩, H1⟩ ?_
    refine W_seq ?_
    refine W_gh ?_
    refine W_block ?_
    refine W_seq ?_
    refine W_gh ?_
    refine W_reg ?_
    refine O_p 2 ?_
    refine O_nil ?_
    refine Gh_e ⟨⟨26, [(0, .po id 0), (1, .fn f cap), (4, .i (i : Int)), (9, .i (n : Int)), (10, .i (i : Int))]⟩, H1⟩ ?_
    refine W_seq ?_
    refine W_gh ?_
    refine W_reg ?_
    refine O_p 3 ?_
    obtain ⟨m1, hm1⟩ := hs i 0 H1 h1
    refine O_sqn hm1 ?_
    refine O_p 1 ?_
    refine O_nil ?_
    refine Gh_e ⟨⟨26, [(0, .po id 0), (1, .fn f cap), (4, .i (i : Int)), (9, .i (n : Int)), (10, .i (i : Int)), (16, .i (n : Int)), (17, .i ((0 : Nat) : Int))]⟩, H1⟩ ?_
    refine W_gh (W_block ?_)
    refine W_lp (fun s' => ∃ (j : Nat) (H' : List Obj), s' = ⟨⟨26, [(0, .po id 0), (1, .fn f cap), (4, .i (i : Int)), (9, .i (n : Int)), (10, .i (i : Int)), (16, .i (n : Int)), (17, .i (j : Int))]⟩, H'⟩ ∧ j ≤ n ∧ I i j H') (fun s' => match s'.tmps.get 17 with | .int _ k => n - k.toNat | _ => 0) ⟨0, H1, rfl, by omega, h1⟩ ?_
    rintro s' ⟨j, H2, rfl, hj, h2⟩
    refine W_gh ?_
    refine W_seq ?_
    refine W_reg ?_
    refine O_p 1 ?_
    refine O_nil ?_
    refine W_seq ?_
    refine W_gh ?_
    refine W_cond (c := decide ((j : Int) < (n : Int))) (by kernel_rfl) (fun c => ?_) (fun c => ?_)
    · have c4 : j < n := by have := of_decide_eq_true c; omega
      refine W_skip ?_
      refine Gh_e ⟨⟨26, [(0, .po id 0), (1, .fn f cap), (4, .i (i : Int)), (9, .i (n : Int)), (10, .i (i : Int)), (16, .i (n : Int)), (17, .i (j : Int))]⟩, H2⟩ ?_
      refine W_seq ?_
      refine W_gh ?_
      refine W_block ?_
      refine W_seq ?_
      refine W_gh ?_
      refine W_reg ?_
      refine O_p 2 ?_
      refine O_nil ?_
      refine Gh_e ⟨⟨26, [(0, .po id 0), (1, .fn f cap), (4, .i (i : Int)), (5, .i (j : Int)), (9, .i (n : Int)), (10, .i (i : Int)), (16, .i (n : Int)), (17, .i (j : Int))]⟩, H2⟩ ?_
      refine W_gh ?_
      refine W_reg ?_
      refine O_p 3 ?_
      refine O_wcv (f := f) (cap := cap) (xs := .i (i : Int) :: .i (j : Int) :: cap) (by kernel_rfl) (by kernel_rfl) (by rfl) ?_
      refine step i j H2 _ c3 c4 h2 (fun H3 h3 => ?_)
      refine O_nil ?_
      refine Gh_one (s1 := ⟨⟨26, [(0, .po id 0), (1, .fn f cap), (4, .i (i : Int)), (9, .i (n : Int)), (10, .i (i : Int)), (16, .i (n : Int)), (17, .i (j : Int))]⟩, H3⟩) (by kernel_rfl) ?_
      refine Gh_tr (I i (j + 1)) h3 (hT _ _ _ h3) (fun H3 h3 => ?_)
      refine Gh_nil ?_
      refine Gh_one (s1 := ⟨⟨26, [(0, .po id 0), (1, .fn f cap), (4, .i (i : Int)), (9, .i (n : Int)), (10, .i (i : Int)), (16, .i (n : Int)), (17, .i (j : Int))]⟩, H3⟩) (by kernel_rfl) ?_
      refine Gh_tr (I i (j + 1)) h3 (hT _ _ _ h3) (fun H3 h3 => ?_)
      refine Gh_nil ?_
      refine W_gh ?_
      refine W_reg ?_
      refine O_p 2 ?_
      refine O_nil ?_
      refine Gh_e ⟨⟨26, [(0, .po id 0), (1, .fn f cap), (4, .i (i : Int)), (9, .i (n : Int)), (10, .i (i : Int)), (16, .i (n : Int)), (17, .i (addI .i64 (j : Int) 1))]⟩, H3⟩ ?_
      rw [addI_nat (k := j) (by omega)]
      refine Gh_one (s1 := ⟨⟨26, [(0, .po id 0), (1, .fn f cap), (4, .i (i : Int)), (9, .i (n : Int)), (10, .i (i : Int)), (16, .i (n : Int)), (17, .i ((j + 1 : Nat) : Int))]⟩, H3⟩) (by kernel_rfl) ?_
      refine Gh_tr (I i (j + 1)) h3 (hT _ _ _ h3) (fun H3 h3 => ?_)
      refine Gh_nil ?_
      refine ⟨⟨j + 1, H3, rfl, by omega, h3⟩, ?_⟩
      show n - (((j + 1 : Nat) : Int)).toNat < n - ((j : Int)).toNat
      omega
    · have c4 := of_decide_eq_false c
      obtain rfl : j = n := by omega
      refine W_exit ?_
      refine X_hit ?_
      refine Gh_one (s1 := ⟨⟨26, [(0, .po id 0), (1, .fn f cap), (9, .i (j : Int)), (10, .i (i : Int))]⟩, H2⟩) (by kernel_rfl) ?_
      refine Gh_tr (I i j) h2 (hT _ _ _ h2) (fun H2 h2 => ?_)
      refine Gh_nil ?_
      refine Gh_one (s1 := ⟨⟨26, [(0, .po id 0), (1, .fn f cap), (9, .i (j : Int)), (10, .i (i : Int))]⟩, H2⟩) (by kernel_rfl) ?_
      refine Gh_tr (I i j) h2 (hT _ _ _ h2) (fun H2 h2 => ?_)
      refine Gh_nil ?_
      refine W_gh ?_
      refine W_reg ?_
      refine O_p 2 ?_
      refine O_nil ?_
      refine Gh_e ⟨⟨26, [(0, .po id 0), (1, .fn f cap), (9, .i (j : Int)), (10, .i (addI .i64 (i : Int) 1))]⟩, H2⟩ ?_
      rw [addI_nat (k := i) (by omega)]
      refine Gh_one (s1 := ⟨⟨26, [(0, .po id 0), (1, .fn f cap), (9, .i (j : Int)), (10, .i ((i + 1 : Nat) : Int))]⟩, H2⟩) (by kernel_rfl) ?_
      refine Gh_tr (I i j) h2 (hT _ _ _ h2) (fun H2 h2 => ?_)
      refine Gh_nil ?_
      refine ⟨⟨i + 1, H2, rfl, by omega, next _ _ c3 h2⟩, ?_⟩
      show j - (((i + 1 : Nat) : Int)).toNat < j - ((i : Int)).toNat
      omega
  · have c4 := of_decide_eq_false c
    obtain rfl : i = n := by omega
    refine W_exit ?_
    refine X_hit ?_
    refine Gh_one (s1 := ⟨⟨26, []⟩, H1⟩) (by kernel_rfl) ?_
    refine Gh_tr (I i 0) h1 (hT _ _ _ h1) (fun H1 h1 => ?_)
    refine Gh_nil ?_
    exact ⟨[], rfl, hk _ h1⟩

/-- memory that is as before below a place -/
def Fr (L : Nat) (H H' : List Obj) : Prop := ∀ a, a < L → H'[a]? = H[a]?
theorem Fr.app {H R : List Obj} : Fr H.length H (H ++ R) := fun a ha => List.getElem?_append_left ha
theorem Fr.trans {L M : Nat} {H H1 H2 : List Obj} (h : Fr L H H1) (g : Fr M H1 H2) (hm : L ≤ M) : Fr L H H2 := fun a ha => (g a (by omega)).trans (h a ha)
theorem Fr.take {L k : Nat} {H H' : List Obj} (h : Fr L H H') (hk : L ≤ k) : Fr L H (H'.take k) := fun a ha => by rw [List.getElem?_take_of_lt (by omega)]; exact h a ha
theorem Fr.set {L id : Nat} {o : Obj} {H H' : List Obj} (h : Fr L H H') (hi : L ≤ id) : Fr L H (H'.set id o) := fun a ha => by rw [List.getElem?_set_ne (by omega)]; exact h a ha
theorem get_lt {H : List Obj} {a : Nat} {o : Obj} (h : H[a]? = some o) : a < H.length := (List.getElem?_eq_some_iff.1 h).1
theorem get_app {H R : List Obj} {a : Nat} {o : Obj} (h : H[a]? = some o) : (H ++ R)[a]? = some o := by rw [List.getElem?_append_left (get_lt h)]; exact h
theorem get_take {H : List Obj} {a k : Nat} {o : Obj} (h : H[a]? = some o) (hk : a < k) : (H.take k)[a]? = some o := by rw [List.getElem?_take_of_lt hk]; exact h
theorem get_ne {H : List Obj} {a id : Nat} {o o' : Obj} (h : H[a]? = some o) (hk : a ≠ id) : (H.set id o')[a]? = some o := by rw [List.getElem?_set_ne (by omega)]; exact h
theorem get_end {H R : List Obj} (k : Nat) {o : Obj} (h : R[k]? = some o) : (H ++ R)[H.length + k]? = some o := by rw [List.getElem?_append_right (by omega), show H.length + k - H.length = k by omega]; exact h
theorem get_last {H : List Obj} {o : Obj} : (H ++ [o])[H.length]? = some o := get_end (R := [o]) 0 rfl

/-- a value is put into memory -/
theorem O_box {cs : List AV} {sz : Nat} {x : RX} (k : Nat) (H' : List Obj) (hx : (evT E.glob t x).cells = cs) (hl : cs.length = sz) (hk : WO E hpx dr os (putD t d (.po k 0)) H' K) (hn : H.length = k := by simp) (he : H ++ [.lv sz cs] = H' := by simp) (h1 : allOne cs = true := by kernel_rfl) (hw : wantT t g = some true := by kernel_rfl) :
    WO E hpx dr (⟨d, g, .box x⟩ :: os) t H K := by
  subst hl; subst hn; subst he
  refine WO_step (v := .po H.length 0) (H1 := H ++ [.lv cs.length cs]) (by simp [RO.kind]) hw ?_ hk
  simp only [ev1, evalOpe, RO.kind, evalWe, hx, h1, if_true]
  simp [putObj]
theorem O_alloc {z : List AV} {sz : Nat} (k : Nat) (H' : List Obj) (hl : z.length = sz) (hk : WO E hpx dr os (putD t d (.po k 0)) H' K) (hn : H.length = k := by simp) (he : H ++ [.lv sz z] = H' := by simp) (h1 : allOne z = true := by kernel_rfl) (hw : wantT t g = some true := by kernel_rfl) :
    WO E hpx dr (⟨d, g, .alloc z⟩ :: os) t H K := by
  subst hl; subst hn; subst he
  refine WO_step (v := .po H.length 0) (H1 := H ++ [.lv z.length z]) (by simp [RO.kind]) hw ?_ hk
  simp only [ev1, evalOpe, RO.kind, evalWe, h1, if_true]
  simp [putObj]
theorem O_st {id o n sz : Nat} {cs : List AV} {x y : RX} (xs cs' : List AV) (hH : H[id]? = some (.lv sz cs)) (hk : WO E hpx dr os (putD t d (.tup [])) (H.set id (.lv sz cs')) K) (hx : evT E.glob t x = .po id o := by kernel_rfl) (hy : (evT E.glob t y).cells = xs := by kernel_rfl)
    (hp : putAt cs o xs = cs' := by kernel_rfl) (hn : xs.length = n := by rfl) (ho : o + n ≤ sz := by decide) (h1 : allOne xs = true := by kernel_rfl) (hw : wantT t g = some true := by kernel_rfl) : WO E hpx dr (⟨d, g, .store n x y⟩ :: os) t H K := by
  refine WO_step (v := .tup []) (H1 := H.set id (.lv sz cs')) (by simp [RO.kind]) hw ?_ hk
  simp only [ev1, evalOpe, RO.kind, evalWe, hx, hy, storeAt, getLive, hH, nlAt, List.length_singleton]
  rw [if_pos ⟨trivial, hn, ho, h1, rfl⟩]
  simp only [List.getElem?_cons_zero, List.set_cons_zero, hp]
/-- cells of a box are read -/
theorem O_ldb {id o sz : Nat} {cs : List AV} {v : AV} {x : RX} (hH : H[id]? = some (.lv sz cs)) (hx : evT E.glob t x = .po id o) (hc : cs[o]? = some v) (hk : WO E hpx dr os (putD t d v) H K) (hw : wantT t g = some true := by kernel_rfl) :
    WO E hpx dr (⟨d, g, .load 1 false x⟩ :: os) t H K := O_ldc (es := [cs]) hx hH rfl rfl hc hk hw
theorem O_lda {id n sz : Nat} {cs : List AV} {x : RX} (hH : H[id]? = some (.lv sz cs)) (hx : evT E.glob t x = .po id 0) (hn : cs.length = n) (hk : WO E hpx dr os (putD t d (.agg cs)) H K) (hw : wantT t g = some true := by kernel_rfl) :
    WO E hpx dr (⟨d, g, .load n true x⟩ :: os) t H K := by
  refine O_op1 (v := .agg cs) (H1 := H) (fun hc => nomatch (show Kind.read = Kind.call from hc)) hw ?_ hk
  show (match loadAt H n true (evT E.glob t x) with | some v => some (v, H) | none => none) = _
  rw [hx]
  simp [loadAt, getLive, hH, Am.part, hn.symm]
/-- an element of what is only read -/
theorem O_rold {d1 d2 i : Nat} {es : List (List AV)} {v : AV} {x ix : RX} (hx : evT E.glob t x = .ro es) (he : es[i]? = some [v]) (hk : WO E hpx dr os ((t.put d1 (.pro [v])).put d2 v) H K)
    (hi : evT E.glob t ix = .i (i : Int) := by kernel_rfl) (e1 : evT E.glob (t.put d1 (.pro [v])) (.t d1) = .pro [v] := by kernel_rfl) (w1 : wantT t g = some true := by kernel_rfl) (w2 : wantT (t.put d1 (.pro [v])) g = some true := by kernel_rfl) :
    WO E hpx dr (⟨some d1, g, .iadS 1 x ix⟩ :: ⟨some d2, g, .load 1 false (.t d1)⟩ :: os) t H K := by
  refine WO_step (v := .pro [v]) (H1 := H) (by simp [RO.kind]) w1 ?_ ?_
  · simp only [ev1, evalOpe, RO.kind, evalRe, hx, hi, iadS]
    rw [if_pos (by omega), Int.toNat_natCast, he]; rfl
  · refine WO_step (v := v) (H1 := H) (by simp [RO.kind]) w2 ?_ hk
    have e1' : evT E.glob (putD t (some d1) (.pro [v])) (.t d1) = .pro [v] := e1
    simp only [ev1, evalOpe, RO.kind, evalRe, e1', loadAt, Am.part]
    simp

theorem Sq.row {n : Nat} {l : List (List Int)} (h : Sq n l) {i : Nat} (hi : i < n) : (l.map (cL cI_i64))[i]? = some [.ro ((l.getD i []).map cI_i64)] := by
  have hi' : i < l.length := by rw [h.1]; exact hi
  rw [List.getElem?_map, List.getElem?_eq_getElem hi']
  simp [cL, List.getD_eq_getElem?_getD, hi']
theorem Sq.el {n : Nat} {l : List (List Int)} (h : Sq n l) {i j : Nat} (hi : i < n) (hj : j < n) : ((l.getD i []).map cI_i64)[j]? = some [.i (ent l i j)] := by
  have hi' : i < l.length := by rw [h.1]; exact hi
  have hr : (l.getD i []).length = n := by
    rw [List.getD_eq_getElem?_getD, List.getElem?_eq_getElem hi']
    exact h.2 _ (List.getElem_mem _)
  have hj' : j < (l.getD i []).length := by omega
  rw [List.getElem?_map, List.getElem?_eq_getElem hj']
  simp [cI_i64, ent, List.getD_eq_getElem?_getD, hj'] <;> simp [List.getD_eq_getElem?_getD] at hj' ⊢ <;> simp [hj']
end G11

namespace G11
open Go hiding Obj mark
open Go.Pl Go.Am Go.Am.As
set_option linter.unusedVariables false

def low (m : Nat → Nat → Int) (i j : Nat) (v : Int) : Nat → Nat → Int := if m i j = -1099511627776 ∨ v < m i j then up2 m i j v else m

theorem lower_eq {id n i j : Nat} {v : Int} {m : Nat → Nat → Int} {H : List Obj} {K : AV → List Obj → Prop} (hi : i < 13) (hj : j < 13) (hH : H[id]? = some (sqo n m)) (hk : K (.tup []) (H.set id (sqo n (low m i j v)))) :
    WC E0 hp false 71 [.po id 0, .i (i : Int), .i (j : Int), .i v] H K := by
  refine W_call fn71 (.inr (snaps_none 0 rfl rfl)) rfl (by decide) ?_
  have hfin : ∀ c : Bool, (c = true ↔ (m i j = -1099511627776 ∨ v < m i j)) → W E0 hp (.gh [] (.cond (.t 28) (.gh [] (.reg [L11.o 29 (.mov (.t 0)), L11.o 30 (.mov (.t 1)), L11.o 31 (.mov (.t 2)), L11.o 32 (.mov (.t 3)), L11.o 33 (.nchk (.t 29)), L11.o 34 (.fad 1 (.t 33)), L11.o 35 (.iadA 13 13 (.t 34) (.t 30)), L11.o 36 (.iadA 13 1 (.t 35) (.t 31)), L11.u (.store 1 (.t 36) (.t 32))]) [.kill [0, 1, 2, 3, 29, 30, 31, 32, 33, 34, 35, 36]]) .skip) [.kill [0, 1, 2, 3, 28]]) H.length (fun s' => ∃ l, resultsT [] s' = some l ∧ K (oneOf l) s'.H) (fun _ _ => False) (fun s' => ∃ l, resultsT [] s' = some l ∧ K (oneOf l) s'.H)
      ⟨⟨37, [(0, .po id 0), (1, .i (i : Int)), (2, .i (j : Int)), (3, .i v), (28, .bool c)]⟩, H⟩ := by
    intro c hc
    refine W_gh ?_
    refine W_cond (c := c) (by kernel_rfl) (fun c1 => ?_) (fun c1 => ?_)
    · subst c1
      refine W_gh ?_
      refine W_reg ?_
      refine O_q 6 ?_
      refine O_sqst (v := v) hi hj hH ?_
      refine O_nil ?_
      refine Gh_e ⟨⟨37, [(28, .bool true)]⟩, H.set id (sqo n (up2 m i j v))⟩ ?_
      refine Gh_e ⟨⟨37, []⟩, H.set id (sqo n (up2 m i j v))⟩ ?_
      refine ⟨[], rfl, ?_⟩
      have : low m i j v = up2 m i j v := by unfold low; rw [if_pos (hc.1 rfl)]
      rw [this] at hk; exact hk
    · subst c1
      refine W_skip ?_
      refine Gh_e ⟨⟨37, []⟩, H⟩ ?_
      refine ⟨[], rfl, ?_⟩
      have : low m i j v = m := by unfold low; rw [if_neg (fun h => by simpa using hc.2 h)]
      rw [this] at hk
      have e : H.set id (sqo n m) = H := by
        obtain ⟨hl, he⟩ := List.getElem?_eq_some_iff.1 hH
        rw [← he]; simp
      rw [e] at hk; exact hk
  refine W_seq ?_
  refine W_gh ?_
  refine W_reg ?_
  refine O_q 5 ?_
  refine O_sqld hi hj hH ?_
  refine O_q 2 ?_
  refine O_fork (n := 17) (m i j == -1099511627776) (by kernel_rfl) (fun c => ?_) (fun c => ?_)
  · refine O_q 11 ?_
    refine O_nil ?_
    refine Gh_e ⟨⟨37, [(0, .po id 0), (1, .i (i : Int)), (2, .i (j : Int)), (3, .i v), (28, .bool true)]⟩, H⟩ ?_
    exact hfin true ⟨fun _ => .inl (eq_of_beq c), fun _ => rfl⟩
  · refine O_q 6 ?_
    refine O_sqld hi hj hH ?_
    refine O_q 2 ?_
    refine O_nil ?_
    refine Gh_e ⟨⟨37, [(0, .po id 0), (1, .i (i : Int)), (2, .i (j : Int)), (3, .i v), (28, .bool (decide (v < m i j)))]⟩, H⟩ ?_
    exact hfin (decide (v < m i j)) ⟨fun h => .inr (of_decide_eq_true h), fun h => by
      rcases h with h | h
      · exact ((beq_eq_false_iff_ne.1 c) h).elim
      · exact decide_eq_true h⟩

/-- the square of bounds -/
theorem of_eq {N : Nat} {l : List (List Int)} {H : List Obj} {K : AV → List Obj → Prop} (hn : N + 1 ≤ 13) (hl : Sq (N + 1) l)
    (hk : ∀ q H' m, H.length ≤ q → H'[q]? = some (sqo (N + 1) m) → (∀ i j, i < N + 1 → j < N + 1 → m i j = ent l i j) → Fr H.length H H' → K (.po q 0) H') : WC E0 hp false 70 [.agg [.i (N : Int), .ro (l.map (cL cI_i64))]] H K := by
  refine W_call fn70 (.inl rfl) rfl (by decide) ?_
  refine W_seq ?_
  refine W_gh ?_
  refine W_reg ?_
  refine O_box (cs := [.i (N : Int), .ro (l.map (cL cI_i64))]) (sz := 2) H.length (H ++ [.lv 2 [.i (N : Int), .ro (l.map (cL cI_i64))]]) (by kernel_rfl) rfl ?_
  refine O_q 1 ?_
  refine O_nil ?_
  refine Gh_e ⟨⟨13, [(1, .po H.length 0)]⟩, H ++ [.lv 2 [.i (N : Int), .ro (l.map (cL cI_i64))]]⟩ ?_
  refine W_seq ?_
  refine W_gh ?_
  refine W_reg ?_
  refine O_q 1 ?_
  refine O_ldb (o := 0) (v := .i (N : Int)) get_last (by kernel_rfl) rfl ?_
  refine O_q 2 ?_
  refine O_box (cs := .i ((N + 1 : Nat) : Int) :: sqc (fun _ _ => 0)) (sz := 170) (H.length + 1) (H ++ [.lv 2 [.i (N : Int), .ro (l.map (cL cI_i64))], sqo (N + 1) fun _ _ => 0]) (by rw [← addI_nat (k := N) (by omega)]; kernel_rfl) (by simp [sqc]) ?_ (by simp) (by rw [List.append_assoc]; rfl)
  refine O_alloc (sz := 1) (H.length + 2) (H ++ [.lv 2 [.i (N : Int), .ro (l.map (cL cI_i64))], sqo (N + 1) fun _ _ => 0, .lv 1 [.nilp]]) rfl ?_
  refine O_st (o := 0) (sz := 1) (cs := [.nilp]) [.po (H.length + 1) 0] [.po (H.length + 1) 0] (id := H.length + 2) (get_end 2 rfl) ?_
  refine O_nil ?_
  refine Gh_e ⟨⟨13, [(1, .po H.length 0), (3, .po (H.length + 2) 0)]⟩, (H ++ [.lv 2 [.i (N : Int), .ro (l.map (cL cI_i64))], sqo (N + 1) fun _ _ => 0, .lv 1 [.nilp]]).set (H.length + 2) (.lv 1 [.po (H.length + 1) 0])⟩ ?_
  have eH : (H ++ [Obj.lv 2 [.i (N : Int), .ro (l.map (cL cI_i64))], sqo (N + 1) fun _ _ => 0, .lv 1 [.nilp]]).set (H.length + 2) (.lv 1 [.po (H.length + 1) 0]) =
      H ++ [.lv 2 [.i (N : Int), .ro (l.map (cL cI_i64))], sqo (N + 1) fun _ _ => 0, .lv 1 [.po (H.length + 1) 0]] := by
    simp
  rw [eH]
  have hb : (H ++ [Obj.lv 2 [.i (N : Int), .ro (l.map (cL cI_i64))], sqo (N + 1) fun _ _ => 0, .lv 1 [.po (H.length + 1) 0]])[H.length]? = some (.lv 2 [.i (N : Int), .ro (l.map (cL cI_i64))]) := get_end 0 rfl
  have hs : (H ++ [Obj.lv 2 [.i (N : Int), .ro (l.map (cL cI_i64))], sqo (N + 1) fun _ _ => 0, .lv 1 [.po (H.length + 1) 0]])[H.length + 1]? = some (sqo (N + 1) fun _ _ => 0) := get_end 1 rfl
  have hp3 : (H ++ [Obj.lv 2 [.i (N : Int), .ro (l.map (cL cI_i64))], sqo (N + 1) fun _ _ => 0, .lv 1 [.po (H.length + 1) 0]])[H.length + 2]? = some (.lv 1 [.po (H.length + 1) 0]) := get_end 2 rfl
  have hf : Fr H.length H (H ++ [Obj.lv 2 [.i (N : Int), .ro (l.map (cL cI_i64))], sqo (N + 1) fun _ _ => 0, .lv 1 [.po (H.length + 1) 0]]) := Fr.app
  have hlen : (H ++ [Obj.lv 2 [.i (N : Int), .ro (l.map (cL cI_i64))], sqo (N + 1) fun _ _ => 0, .lv 1 [.po (H.length + 1) 0]]).length = H.length + 3 := by simp
  generalize H ++ [Obj.lv 2 [.i (N : Int), .ro (l.map (cL cI_i64))], sqo (N + 1) fun _ _ => 0, .lv 1 [.po (H.length + 1) 0]] = H1 at hb hs hp3 hf hlen ⊢
  refine W_seq ?_
  refine W_gh ?_
  refine W_reg ?_
  refine O_ldb (o := 0) hp3 (by kernel_rfl) rfl ?_
  refine O_q 1 ?_
  refine O_wc (xs := [.po (H.length + 1) 0, .fn 92 [.po H.length 0, .po (H.length + 2) 0]]) (by kernel_rfl) (by kernel_rfl) ?_
  refine each_eq (n := N + 1) (fun i j H' => Fr H.length H H' ∧ H'[H.length]? = some (.lv 2 [.i (N : Int), .ro (l.map (cL cI_i64))]) ∧ H'[H.length + 2]? = some (.lv 1 [.po (H.length + 1) 0]) ∧ ∃ m, H'[H.length + 1]? = some (sqo (N + 1) m) ∧ ∀ a b, a < N + 1 → b < N + 1 → (a < i ∨ a = i ∧ b < j) → m a b = ent l a b)
    hn (fun i j H' h => by obtain ⟨m, h1, _⟩ := h.2.2.2; exact ⟨m, h1⟩) (fun i j H' h => .inr ?_) ⟨hf, hb, hp3, _, hs, fun a b _ _ h => by omega⟩ ?_ ?_ ?_
  · obtain ⟨h1, h2, h3, m, h4, h5⟩ := h
    rw [hlen]
    exact ⟨h1.take (by omega), get_take h2 (by omega), get_take h3 (by omega), m, get_take h4 (by omega), h5⟩
  · rintro i j H2 K' hi hj ⟨h1, h2, h3, m, h4, h5⟩ hk'
    refine W_call fn92 (.inr (snaps_none 2 rfl rfl)) rfl (by decide) ?_
    refine W_gh ?_
    refine W_draw ?_
    refine O_ldb (o := 0) h3 (by kernel_rfl) rfl ?_
    refine O_q 3 ?_
    refine O_ldb (o := 1) h2 (by kernel_rfl) rfl ?_
    refine O_q 1 ?_
    refine O_rold (i := i) (by kernel_rfl) (hl.row hi) ?_
    refine O_q 1 ?_
    refine O_rold (i := j) (by kernel_rfl) (hl.el hi hj) ?_
    refine O_q 2 ?_
    refine O_sqst (v := ent l i j) (i := i) (j := j) (by omega) (by omega) h4 ?_
    refine O_nil ?_
    refine Gh_e ⟨⟨21, []⟩, H2.set (H.length + 1) (sqo (N + 1) (up2 m i j (ent l i j)))⟩ ?_
    refine ⟨[], rfl, hk' _ ⟨h1.set (by omega), get_ne h2 (by omega), get_ne h3 (by omega), _, sq_self h4, ?_⟩⟩
    intro a b ha hb' h
    by_cases e : a = i ∧ b = j
    · obtain ⟨rfl, rfl⟩ := e; rw [up2_eq]
    · rw [up2_ne e]; exact h5 a b ha hb' (by omega)
  · rintro i H2 hi ⟨h1, h2, h3, m, h4, h5⟩
    exact ⟨h1, h2, h3, m, h4, fun a b ha hb' h => h5 a b ha hb' (by omega)⟩
  rintro H2 ⟨h1, h2, h3, m, h4, h5⟩
  refine O_nil ?_
  refine Gh_e ⟨⟨13, [(3, .po (H.length + 2) 0)]⟩, H2⟩ ?_
  refine W_seq ?_
  refine W_gh ?_
  refine W_reg ?_
  refine O_ldb (o := 0) h3 (by kernel_rfl) rfl ?_
  refine O_q 1 ?_
  refine O_nil ?_
  refine Gh_e ⟨⟨13, [(2, .po (H.length + 1) 0)]⟩, H2⟩ ?_
  refine W_ret ?_
  exact ⟨[.po (H.length + 1) 0], by kernel_rfl, hk _ _ m (by omega) h4 (fun i j hi hj => h5 i j hi hj (by omega)) h1⟩
end G11

namespace G11
open Go hiding Obj mark
open Go.Pl Go.Am Go.Am.As
set_option linter.unusedVariables false

def Small (a : Option Int) : Prop := ∀ x, a = some x → -8192000000 ≤ x ∧ x ≤ 8192000000
theorem ofO_ne {a : Option Int} (h : Small a) : ofO a ≠ -1099511627776 ↔ a ≠ none := by
  cases a with
  | none => simp [ofO]
  | some x => have := h x rfl; simp [ofO]; omega

def clo (m : Nat → Nat → Int) (i j : Nat) (x y : Int) : Nat → Nat → Int := if x ≠ -1099511627776 ∧ y ≠ -1099511627776 then low m i j (addI .i64 x y) else m
theorem low_ne {m : Nat → Nat → Int} {i j a b : Nat} {v : Int} (h : ¬ (a = i ∧ b = j)) : low m i j v a b = m a b := by
  unfold low; split
  · exact up2_ne h
  · rfl
theorem clo_ne {m : Nat → Nat → Int} {i j a b : Nat} {x y : Int} (h : ¬ (a = i ∧ b = j)) : clo m i j x y a b = m a b := by
  unfold clo; split
  · exact low_ne h
  · rfl
theorem clo_val {m : Nat → Nat → Int} {i j : Nat} {a b c : Option Int} (ha : Small a) (hb : Small b) (hc : Small c) (hm : m i j = ofO c) : clo m i j (ofO a) (ofO b) i j = ofO (omin (osum a b) c) := by
  unfold clo
  cases a with
  | none => rw [if_neg (by simp [ofO])]; exact hm
  | some x =>
    cases b with
    | none => rw [if_neg (by simp [ofO])]; exact hm
    | some y =>
      have h1 := ha x rfl
      have h2 := hb y rfl
      have e : addI .i64 x y = x + y := addI_eq (by omega) (by omega)
      rw [if_pos ⟨(ofO_ne ha).2 (by simp), (ofO_ne hb).2 (by simp)⟩]
      show low m i j (addI .i64 x y) i j = _
      rw [e]
      unfold low
      rw [hm]
      cases c with
      | none => rw [if_pos (.inl rfl), up2_eq]; rfl
      | some z =>
        have h3 := hc z rfl
        show (if z = -1099511627776 ∨ x + y < z then up2 m i j (x + y) else m) i j = ofO (omin (some (x + y)) (some z))
        unfold omin oless
        by_cases hlt : x + y < z
        · rw [if_pos (.inr hlt), up2_eq, if_pos (by simpa using hlt)]; rfl
        · rw [if_neg (by omega), hm, if_neg (by simpa using hlt)]

theorem clo_f {n id i j k L q : Nat} {m : Nat → Nat → Int} {H : List Obj} {K : AV → List Obj → Prop} (hi : i < 13) (hj : j < 13) (hk : k < 13) (hH : H[id]? = some (sqo n m)) (hL : H[L]? = some (.lv 1 [.po id 0])) (hq : H[q]? = some (.lv 1 [.i (k : Int)]))
    (hK : K (.tup []) (H.set id (sqo n (clo m i j (m i k) (m k j))))) : WC E0 hp false 96 [.i (i : Int), .i (j : Int), .po L 0, .po q 0] H K := by
  refine W_call fn96 (.inr (snaps_none 2 rfl rfl)) rfl (by decide) ?_
  refine W_seq ?_
  refine W_gh ?_
  refine W_draw ?_
  refine O_ldb (o := 0) hL (by kernel_rfl) rfl ?_
  refine O_q 1 ?_
  refine O_ldb (o := 0) hq (by kernel_rfl) rfl ?_
  refine O_q 2 ?_
  refine O_sqld (i := i) (j := k) hi hk hH ?_
  refine O_ldb (o := 0) hL (by kernel_rfl) rfl ?_
  refine O_ldb (o := 0) hq (by kernel_rfl) rfl ?_
  refine O_q 3 ?_
  refine O_sqld (i := k) (j := j) hk hj hH ?_
  refine O_q 2 ?_
  refine O_nil ?_
  generalize hx : m i k = x at hK ⊢
  generalize hy : m k j = y at hK ⊢
  refine Gh_e ⟨⟨37, [(0, .i (i : Int)), (1, .i (j : Int)), (2, .po L 0), (6, .i x), (7, .i y)]⟩, H⟩ ?_
  have hfin : ∀ c : Bool, (c = true ↔ (x ≠ -1099511627776 ∧ y ≠ -1099511627776)) → W E0 hp (.gh [] (.cond (.t 29) (.gh [] (.reg [L11.o 30 (.load 1 false (.t 2)), L11.o 31 (.mov (.t 0)), L11.o 32 (.mov (.t 1)), L11.o 33 (.mov (.t 6)), L11.o 34 (.mov (.t 7)), L11.o 35 (.bin .add (.t 33) (.t 34)), L11.o 36 (.call 71 [.t 30, .t 31, .t 32, .t 35])]) [.kill [0, 1, 2, 6, 7, 30, 31, 32, 33, 34, 35, 36]]) .skip) [.kill [0, 1, 2, 6, 7, 29]]) H.length (fun s' => ∃ l, resultsT [] s' = some l ∧ K (oneOf l) s'.H) (fun _ _ => False) (fun s' => ∃ l, resultsT [] s' = some l ∧ K (oneOf l) s'.H)
      ⟨⟨37, [(0, .i (i : Int)), (1, .i (j : Int)), (2, .po L 0), (6, .i x), (7, .i y), (29, .bool c)]⟩, H⟩ := by
    intro c hc
    refine W_gh ?_
    refine W_cond (c := c) (by kernel_rfl) (fun c1 => ?_) (fun c1 => ?_)
    · subst c1
      refine W_gh ?_
      refine W_reg ?_
      refine O_ldb (o := 0) hL (by kernel_rfl) rfl ?_
      refine O_q 5 ?_
      refine O_wc (xs := [.po id 0, .i (i : Int), .i (j : Int), .i (addI .i64 x y)]) (by kernel_rfl) (by kernel_rfl) ?_
      refine lower_eq hi hj hH ?_
      refine O_nil ?_
      refine Gh_e ⟨⟨37, [(29, .bool true)]⟩, H.set id (sqo n (low m i j (addI .i64 x y)))⟩ ?_
      refine Gh_e ⟨⟨37, []⟩, H.set id (sqo n (low m i j (addI .i64 x y)))⟩ ?_
      refine ⟨[], rfl, ?_⟩
      have : clo m i j x y = low m i j (addI .i64 x y) := by unfold clo; rw [if_pos (hc.1 rfl)]
      rw [this] at hK; exact hK
    · subst c1
      refine W_skip ?_
      refine Gh_e ⟨⟨37, []⟩, H⟩ ?_
      refine ⟨[], rfl, ?_⟩
      have : clo m i j x y = m := by unfold clo; rw [if_neg (fun h => by simpa using hc.2 h)]
      rw [this] at hK
      have e : H.set id (sqo n m) = H := by
        obtain ⟨hl, he⟩ := List.getElem?_eq_some_iff.1 hH
        rw [← he]; simp
      rw [e] at hK; exact hK
  refine W_seq ?_
  refine W_gh ?_
  refine W_reg ?_
  refine O_q 3 ?_
  refine O_fork (n := 26) (x != -1099511627776) (by kernel_rfl) (fun c => ?_) (fun c => ?_)
  · refine O_q 3 ?_
    refine O_nil ?_
    refine Gh_e ⟨⟨37, [(0, .i (i : Int)), (1, .i (j : Int)), (2, .po L 0), (6, .i x), (7, .i y), (29, .bool (y != -1099511627776))]⟩, H⟩ ?_
    refine hfin _ ?_
    simp only [bne_iff_ne] at c ⊢
    exact ⟨fun h => ⟨c, h⟩, fun h => h.2⟩
  · refine O_q 3 ?_
    refine O_nil ?_
    refine Gh_e ⟨⟨37, [(0, .i (i : Int)), (1, .i (j : Int)), (2, .po L 0), (6, .i x), (7, .i y), (29, .bool false)]⟩, H⟩ ?_
    refine hfin _ ?_
    have : x = -1099511627776 := by simpa using c
    exact ⟨fun h => (Bool.false_ne_true h).elim, fun h => (h.1 this).elim⟩

theorem close_eq {id n : Nat} {m : Nat → Nat → Int} {w : Wt} {H : List Obj} {K : AV → List Obj → Prop} (hn7 : n ≤ 7) (hH : H[id]? = some (sqo n m)) (hm : ∀ i j, i < n → j < n → m i j = ofO (w i j)) (hnn : NonNeg n w) (hd : ∀ i, i < n → w i i = some 0)
    (hM : ∀ i j x, w i j = some x → -64000000 ≤ x ∧ x ≤ 64000000)
    (hk : ∀ H' m', H'[id]? = some (sqo n m') → (∀ i j, i < n → j < n → m' i j = ofO (fw w n i j)) → (∀ a, a < H.length → a ≠ id → H'[a]? = H[a]?) → K (.tup []) H') : WC E0 hp false 86 [.po id 0] H K := by
  have hid : id < H.length := get_lt hH
  have hsm : ∀ k, k ≤ n → ∀ i j, Small (fw w k i j) := by
    intro k hk7 i j x hx
    have := fw_small (M := 64000000) hM k hx
    have h2 : (2 : Int) ^ k ≤ 128 := by
      have : k ≤ 7 := by omega
      have h3 : (2 : Nat) ^ k ≤ 2 ^ 7 := Nat.pow_le_pow_right (by omega) this
      have h4 : ((2 ^ k : Nat) : Int) ≤ ((2 ^ 7 : Nat) : Int) := by exact_mod_cast h3
      simpa using h4
    omega
  refine W_call fn86 (.inr (snaps_none 0 rfl rfl)) rfl (by decide) ?_
  refine W_seq ?_
  refine W_gh ?_
  refine W_reg ?_
  refine O_box (cs := [.po id 0]) (sz := 1) H.length (H ++ [.lv 1 [.po id 0]]) (by kernel_rfl) rfl ?_
  refine O_nil ?_
  refine Gh_e ⟨⟨14, [(1, .po H.length 0)]⟩, H ++ [.lv 1 [.po id 0]]⟩ ?_
  have hL1 : (H ++ [Obj.lv 1 [.po id 0]])[H.length]? = some (.lv 1 [.po id 0]) := get_last
  have hs1 : (H ++ [Obj.lv 1 [.po id 0]])[id]? = some (sqo n m) := get_app hH
  have hf1 : ∀ a, a < H.length → a ≠ id → (H ++ [Obj.lv 1 [.po id 0]])[a]? = H[a]? := fun a ha _ => List.getElem?_append_left ha
  generalize H ++ [Obj.lv 1 [.po id 0]] = H1 at hL1 hs1 hf1 ⊢
  refine W_seq ?_
  refine W_gh ?_
  refine W_reg ?_
  refine O_ldb (o := 0) hL1 (by kernel_rfl) rfl ?_
  refine O_q 2 ?_
  refine O_sqn hs1 ?_
  refine O_q 1 ?_
  refine O_nil ?_
  refine Gh_e ⟨⟨14, [(1, .po H.length 0), (6, .i (n : Int)), (7, .i ((0 : Nat) : Int))]⟩, H1⟩ ?_
  let J : Nat → List Obj → Prop := fun k H' => H'[H.length]? = some (.lv 1 [.po id 0]) ∧ (∀ a, a < H.length → a ≠ id → H'[a]? = H[a]?) ∧ ∃ m', H'[id]? = some (sqo n m') ∧ ∀ i j, i < n → j < n → m' i j = ofO (fw w k i j)
  have hJt : ∀ k c H', H.length < c → J k H' → J k (H'.take c) := by
    rintro k c H' hc ⟨h1, h2, m', h3, h4⟩
    exact ⟨get_take h1 hc, fun a ha hne => by rw [List.getElem?_take_of_lt (by omega)]; exact h2 a ha hne, m', get_take h3 (by omega), h4⟩
  refine W_gh (W_block ?_)
  refine W_lp (fun s' => ∃ (k : Nat) (H' : List Obj), s' = ⟨⟨14, [(1, .po H.length 0), (6, .i (n : Int)), (7, .i (k : Int))]⟩, H'⟩ ∧ k ≤ n ∧ J k H') (fun s' => match s'.tmps.get 7 with | .int _ k => n - k.toNat | _ => 0) ⟨0, H1, rfl, by omega, hL1, hf1, m, hs1, hm⟩ ?_
  rintro s' ⟨k, H2, rfl, hkn, hJ⟩
  refine W_gh ?_
  refine W_seq ?_
  refine W_reg ?_
  refine O_q 1 ?_
  refine O_nil ?_
  refine W_seq ?_
  refine W_gh ?_
  refine W_cond (c := decide ((k : Int) < (n : Int))) (by kernel_rfl) (fun c => ?_) (fun c => ?_)
  · have c3 : k < n := by have := of_decide_eq_true c; omega
    have hinv := fw_inv hnn hd k hkn
    obtain ⟨j1, j2, m', j3, j4⟩ := hJ
    refine W_skip ?_
    refine Gh_e ⟨⟨14, [(1, .po H.length 0), (6, .i (n : Int)), (7, .i (k : Int))]⟩, H2⟩ ?_
    refine W_seq ?_
    refine W_gh ?_
    refine W_block ?_
    refine W_seq ?_
    refine W_gh ?_
    refine W_reg ?_
    refine O_q 1 ?_
    refine O_alloc (sz := 1) H2.length (H2 ++ [.lv 1 [.i 0]]) rfl ?_
    refine O_st (o := 0) (sz := 1) (cs := [.i 0]) [.i (k : Int)] [.i (k : Int)] (id := H2.length) get_last ?_
    refine O_nil ?_
    have eS : (H2 ++ [Obj.lv 1 [.i 0]]).set H2.length (.lv 1 [.i (k : Int)]) = H2 ++ [.lv 1 [.i (k : Int)]] := by simp
    rw [eS]
    refine Gh_e ⟨⟨14, [(1, .po H.length 0), (2, .po H2.length 0), (6, .i (n : Int)), (7, .i (k : Int))]⟩, H2 ++ [.lv 1 [.i (k : Int)]]⟩ ?_
    have q0 : (H2 ++ [Obj.lv 1 [.i (k : Int)]])[H2.length]? = some (.lv 1 [.i (k : Int)]) := get_last
    have q1 : (H2 ++ [Obj.lv 1 [.i (k : Int)]])[H.length]? = some (.lv 1 [.po id 0]) := get_app j1
    have q2 : ∀ a, a < H.length → a ≠ id → (H2 ++ [Obj.lv 1 [.i (k : Int)]])[a]? = H[a]? := fun a ha hne => by rw [List.getElem?_append_left (by have := get_lt j1; omega)]; exact j2 a ha hne
    have q3 : (H2 ++ [Obj.lv 1 [.i (k : Int)]])[id]? = some (sqo n m') := get_app j3
    have q4 : (H2 ++ [Obj.lv 1 [.i (k : Int)]]).length = H2.length + 1 := by simp
    have hLl := get_lt j1
    generalize H2 ++ [Obj.lv 1 [.i (k : Int)]] = H3 at q0 q1 q2 q3 q4 ⊢
    refine W_gh ?_
    refine W_reg ?_
    refine O_ldb (o := 0) q1 (by kernel_rfl) rfl ?_
    refine O_q 1 ?_
    refine O_wc (xs := [.po id 0, .fn 96 [.po H.length 0, .po H2.length 0]]) (by kernel_rfl) (by kernel_rfl) ?_
    refine each_eq (n := n) (fun i j H' => H'[H.length]? = some (.lv 1 [.po id 0]) ∧ (∀ a, a < H.length → a ≠ id → H'[a]? = H[a]?) ∧ H'[H2.length]? = some (.lv 1 [.i (k : Int)]) ∧ ∃ m', H'[id]? = some (sqo n m') ∧ ∀ a b, a < n → b < n → m' a b = ofO (if a < i ∨ a = i ∧ b < j then fw w (k + 1) a b else fw w k a b))
      (by omega) (fun i j H' h => by obtain ⟨m, h1, _⟩ := h.2.2.2; exact ⟨m, h1⟩) (fun i j H' h => .inr ?_) ⟨q1, q2, q0, m', q3, fun a b ha hb => by rw [if_neg (by omega)]; exact j4 a b ha hb⟩ ?_ ?_ ?_
    · obtain ⟨h1, h2, h3, m, h4, h5⟩ := h
      rw [q4]
      exact ⟨get_take h1 (by omega), fun a ha hne => by rw [List.getElem?_take_of_lt (by omega)]; exact h2 a ha hne, get_take h3 (by omega), m, get_take h4 (by omega), h5⟩
    · rintro i j H4 K' hi hj ⟨h1, h2, h3, m4, h4, h5⟩ hk'
      refine clo_f (by omega) (by omega) (by omega) h4 h1 h3 ?_
      have hidL : id ≠ H.length := by omega
      refine hk' _ ⟨get_ne h1 (by omega), fun a ha hne => by rw [List.getElem?_set_ne (by omega)]; exact h2 a ha hne, get_ne h3 (by omega), _, sq_self h4, ?_⟩
      intro a b ha hb
      by_cases e : a = i ∧ b = j
      · obtain ⟨rfl, rfl⟩ := e
        have e1 : m4 a k = ofO (fw w k a k) := by
          rw [h5 a k ha c3]
          split
          · rw [show fw w (k + 1) a k = phase k (fw w k) a k from rfl, phase_col hnn hd hinv c3]
          · rfl
        have e2 : m4 k b = ofO (fw w k k b) := by
          rw [h5 k b c3 hb]
          split
          · rw [show fw w (k + 1) k b = phase k (fw w k) k b from rfl, phase_row hnn hd hinv c3]
          · rfl
        have e3 : m4 a b = ofO (fw w k a b) := by rw [h5 a b ha hb, if_neg (by omega)]
        rw [e1, e2, clo_val (hsm k hkn _ _) (hsm k hkn _ _) (hsm k hkn _ _) e3, if_pos (by omega)]
        rfl
      · rw [clo_ne e, h5 a b ha hb]
        by_cases e2 : a < i ∨ a = i ∧ b < j
        · rw [if_pos e2, if_pos (by omega)]
        · rw [if_neg e2, if_neg (by omega)]
    · rintro i H4 hi ⟨h1, h2, h3, m4, h4, h5⟩
      refine ⟨h1, h2, h3, m4, h4, fun a b ha hb => ?_⟩
      rw [h5 a b ha hb]
      by_cases e2 : a < i ∨ a = i ∧ b < n
      · rw [if_pos e2, if_pos (by omega)]
      · rw [if_neg e2, if_neg (by omega)]
    rintro H4 ⟨h1, h2, h3, m4, h4, h5⟩
    have hJ4 : J (k + 1) H4 := ⟨h1, h2, m4, h4, fun a b ha hb => by rw [h5 a b ha hb, if_pos (by omega)]⟩
    refine O_nil ?_
    refine Gh_e ⟨⟨14, [(1, .po H.length 0), (6, .i (n : Int)), (7, .i (k : Int))]⟩, H4⟩ ?_
    refine Gh_one (s1 := ⟨⟨14, [(1, .po H.length 0), (6, .i (n : Int)), (7, .i (k : Int))]⟩, H4⟩) (by kernel_rfl) ?_
    refine Gh_tr (J (k + 1)) hJ4 (.inr (hJt _ _ _ (by omega) hJ4)) (fun H5 h5 => ?_)
    refine Gh_nil ?_
    refine W_gh ?_
    refine W_reg ?_
    refine O_q 2 ?_
    refine O_nil ?_
    refine Gh_e ⟨⟨14, [(1, .po H.length 0), (6, .i (n : Int)), (7, .i (addI .i64 (k : Int) 1))]⟩, H5⟩ ?_
    rw [addI_nat (k := k) (by omega)]
    refine Gh_one (s1 := ⟨⟨14, [(1, .po H.length 0), (6, .i (n : Int)), (7, .i ((k + 1 : Nat) : Int))]⟩, H5⟩) (by kernel_rfl) ?_
    refine Gh_tr (J (k + 1)) h5 (.inr (hJt _ _ _ (by omega) h5)) (fun H6 h6 => ?_)
    refine Gh_nil ?_
    refine ⟨⟨k + 1, H6, rfl, by omega, h6⟩, ?_⟩
    show n - (((k + 1 : Nat) : Int)).toNat < n - ((k : Int)).toNat
    omega
  · have c3 := of_decide_eq_false c
    obtain rfl : k = n := by omega
    refine W_exit ?_
    refine X_hit ?_
    refine Gh_one (s1 := ⟨⟨14, []⟩, H2⟩) (by kernel_rfl) ?_
    refine Gh_tr (J k) hJ (.inr (hJt _ _ _ (by omega) hJ)) (fun H3 h3 => ?_)
    refine Gh_nil ?_
    obtain ⟨j1, j2, m', j3, j4⟩ := h3
    exact ⟨[], rfl, hk _ m' j3 j4 j2⟩
end G11

namespace G11
open Go hiding Obj mark
open Go.Pl Go.Am Go.Am.As
set_option linter.unusedVariables false

variable {E : Env} {hpx : Nat → Bool} {dr : Bool} {os : List ROp} {t : T} {H : List Obj} {K : T → List Obj → Prop} {g : Option (Nat × Bool)} {d : Option Nat}

/-- an element of an own slice -/
theorem O_owld {id n i d1 d2 : Nat} {fl : Fl} {es : List (List AV)} {v : AV} {x ix : RX} (hH : H[id]? = some (.live fl 1 es)) (hl : es.length = n) (he : es[i]? = some [v])
    (hk : WO E hpx dr os ((t.put d1 (.pown id n i 0)).put d2 v) H K) (hx : evT E.glob t x = .own id n 0 n := by kernel_rfl) (hi : evT E.glob t ix = .i (i : Int) := by kernel_rfl)
    (e1 : evT E.glob (t.put d1 (.pown id n i 0)) (.t d1) = .pown id n i 0 := by kernel_rfl) (w1 : wantT t g = some true := by kernel_rfl) (w2 : wantT (t.put d1 (.pown id n i 0)) g = some true := by kernel_rfl) :
    WO E hpx dr (⟨some d1, g, .iadS 1 x ix⟩ :: ⟨some d2, g, .load 1 false (.t d1)⟩ :: os) t H K := by
  have hi' : i < es.length := (List.getElem?_eq_some_iff.1 he).1
  refine WO_step (v := .pown id n i 0) (H1 := H) (by simp [RO.kind]) w1 ?_ ?_
  · simp only [ev1, evalOpe, RO.kind, evalRe, hx, hi, iadS, getLive, hH, hl]
    rw [if_pos ⟨trivial, trivial, by omega, by omega⟩]
    simp
  · exact O_ldc (es := es) (cs := [v]) e1 hH hl.symm he rfl hk w2
theorem O_owst {id n i d1 : Nat} {fl : Fl} {es : List (List AV)} {v v' : AV} {x ix y : RX} (hH : H[id]? = some (.live fl 1 es)) (hl : es.length = n) (he : es[i]? = some [v]) (hf : fl.free = true)
    (hk : WO E hpx dr os (t.put d1 (.pown id n i 0)) (H.set id (.live fl 1 (es.set i [v']))) K) (hx : evT E.glob t x = .own id n 0 n := by kernel_rfl) (hi : evT E.glob t ix = .i (i : Int) := by kernel_rfl)
    (hy : evT E.glob (t.put d1 (.pown id n i 0)) y = v' := by kernel_rfl) (h1 : v'.cells = [v'] := by rfl) (h2 : allOne [v'] = true := by rfl)
    (e1 : evT E.glob (t.put d1 (.pown id n i 0)) (.t d1) = .pown id n i 0 := by kernel_rfl) :
    WO E hpx dr (⟨some d1, none, .iadS 1 x ix⟩ :: ⟨none, none, .store 1 (.t d1) y⟩ :: os) t H K := by
  have hi' : i < es.length := (List.getElem?_eq_some_iff.1 he).1
  refine WO_step (v := .pown id n i 0) (H1 := H) (by simp [RO.kind]) rfl ?_ ?_
  · simp only [ev1, evalOpe, RO.kind, evalRe, hx, hi, iadS, getLive, hH, hl]
    rw [if_pos ⟨trivial, trivial, by omega, by omega⟩]
    simp
  · refine WO_step (v := .tup []) (H1 := H.set id (.live fl 1 (es.set i [v']))) (by simp [RO.kind]) rfl ?_ hk
    have e1' : evT E.glob (putD t (some d1) (.pown id n i 0)) (.t d1) = .pown id n i 0 := e1
    have e2' : evT E.glob (putD t (some d1) (.pown id n i 0)) y = v' := hy
    simp only [ev1, evalOpe, RO.kind, evalWe, e1', e2', storeAt, getLive, hH, nlAt, h1, List.length_singleton]
    rw [if_pos ⟨hl.symm, trivial, by omega, h2, hf⟩]
    simp [he, putAt]

/-- numbers in own memory -/
abbrev fo (n : Nat) (f : Nat → Int) : Obj := .live .norm 1 ((rowL n f).map cI_i64)
theorem fo_len {n : Nat} {f : Nat → Int} : ((rowL n f).map cI_i64).length = n := by simp [rowL]
theorem fo_get {n : Nat} {f : Nat → Int} {i : Nat} (hi : i < n) : ((rowL n f).map cI_i64)[i]? = some [.i (f i)] := by simp [rowL, hi, cI_i64]
theorem fo_set {n : Nat} {f : Nat → Int} {i : Nat} {v : Int} (hi : i < n) : ((rowL n f).map cI_i64).set i [.i v] = (rowL n (upd f i v)).map cI_i64 := by
  refine List.ext_getElem? (fun k => ?_)
  by_cases hk : k < n
  · rw [List.getElem?_set, fo_get hk]
    by_cases e : i = k
    · subst e; rw [if_pos rfl, if_pos (by rw [fo_len]; exact hi), fo_get hi, upd_eq]
    · rw [if_neg e, fo_get hk, upd_ne (fun h => e h.symm)]
  · rw [List.getElem?_eq_none (by simp [rowL]; omega), List.getElem?_eq_none (by simp [rowL]; omega)]

theorem fo_congr {n : Nat} {f f' : Nat → Int} (h : ∀ t, t < n → f t = f' t) : fo n f = fo n f' := by
  unfold fo rowL
  rw [List.map_congr_left (fun t ht => h t (List.mem_range.1 ht))]

theorem set_set {H : List Obj} {id : Nat} {a b : Obj} : (H.set id a).set id b = H.set id b := by simp
/-- turning a list round, from both ends -/
def rv (f : Nat → Int) (m i : Nat) : Nat → Int := fun t => if t < i ∨ m - 1 - i < t then f (m - 1 - t) else f t
theorem rv_step {f : Nat → Int} {m i t : Nat} (hi : i < m - 1 - i) (ht : t < m) : upd (upd (rv f m i) i (rv f m i (m - 1 - i))) (m - 1 - i) (rv f m i i) t = rv f m (i + 1) t := by
  have e1 : rv f m i i = f i := by unfold rv; rw [if_neg (by omega)]
  have e2 : rv f m i (m - 1 - i) = f (m - 1 - i) := by unfold rv; rw [if_neg (by omega)]
  rw [e1, e2]
  by_cases h1 : t = m - 1 - i
  · subst h1
    rw [upd_eq]
    unfold rv
    rw [if_pos (by omega), show m - 1 - (m - 1 - i) = i by omega]
  · rw [upd_ne h1]
    by_cases h2 : t = i
    · subst h2
      rw [upd_eq]
      unfold rv
      rw [if_pos (by omega)]
    · rw [upd_ne h2]
      unfold rv
      by_cases h3 : t < i ∨ m - 1 - i < t
      · rw [if_pos h3, if_pos (by omega)]
      · rw [if_neg h3, if_neg (by omega)]
theorem rev_eq {id m : Nat} {f : Nat → Int} {H : List Obj} {K : AV → List Obj → Prop} (hm0 : 0 < m) (hm : m < 1000000) (hH : H[id]? = some (fo m f)) (hk : K (.tup []) (H.set id (fo m fun t => f (m - 1 - t)))) : WC E0 hp false 95 [.own id m 0 m] H K := by
  refine W_call fn95 (.inl rfl) rfl (by decide) ?_
  refine W_seq ?_
  refine W_gh ?_
  refine W_reg ?_
  refine O_q 5 ?_
  refine O_nil ?_
  refine Gh_e ⟨⟨28, [(0, .own id m 0 m), (2, .i ((0 : Nat) : Int)), (3, .i (subI .i64 (m : Int) 1))]⟩, H⟩ ?_
  rw [show subI .i64 (m : Int) 1 = ((m - 1 - 0 : Nat) : Int) by rw [subI_eq (by omega) (by omega)]; omega]
  have h0 : H = H.set id (fo m (rv f m 0)) := by
    obtain ⟨hl, he⟩ := List.getElem?_eq_some_iff.1 hH
    have : fo m (rv f m 0) = fo m f := fo_congr (fun t ht => by unfold rv; rw [if_neg (by omega)])
    rw [this, ← he]; simp
  refine W_gh (W_block ?_)
  refine W_lp (fun s' => ∃ i : Nat, s' = ⟨⟨28, [(0, .own id m 0 m), (2, .i (i : Int)), (3, .i ((m - 1 - i : Nat) : Int))]⟩, H.set id (fo m (rv f m i))⟩ ∧ 2 * i ≤ m) (fun s' => match s'.tmps.get 2 with | .int _ k => m - k.toNat | _ => 0) ⟨0, by rw [← h0], by omega⟩ ?_
  rintro s' ⟨i, rfl, hi⟩
  have hH2 : (H.set id (fo m (rv f m i)))[id]? = some (fo m (rv f m i)) := sq_self hH
  refine W_gh ?_
  refine W_seq ?_
  refine W_seq ?_
  refine W_gh ?_
  refine W_reg ?_
  refine O_q 3 ?_
  refine O_nil ?_
  refine Gh_e ⟨⟨28, [(0, .own id m 0 m), (2, .i (i : Int)), (3, .i ((m - 1 - i : Nat) : Int)), (9, .bool (decide ((i : Int) < ((m - 1 - i : Nat) : Int))))]⟩, H.set id (fo m (rv f m i))⟩ ?_
  refine W_gh ?_
  refine W_cond (c := decide ((i : Int) < ((m - 1 - i : Nat) : Int))) (by kernel_rfl) (fun c => ?_) (fun c => ?_)
  · have c3 : i < m - 1 - i := by have := of_decide_eq_true c; omega
    refine W_skip ?_
    refine Gh_e ⟨⟨28, [(0, .own id m 0 m), (2, .i (i : Int)), (3, .i ((m - 1 - i : Nat) : Int))]⟩, H.set id (fo m (rv f m i))⟩ ?_
    refine W_seq ?_
    refine W_block ?_
    refine W_gh ?_
    refine W_draw ?_
    refine O_q 6 ?_
    refine O_owld (i := m - 1 - i) hH2 fo_len (fo_get (by omega)) ?_
    refine O_q 2 ?_
    refine O_owld (i := i) hH2 fo_len (fo_get (by omega)) ?_
    refine O_owst (i := i) (v' := .i (rv f m i (m - 1 - i))) hH2 fo_len (fo_get (by omega)) rfl ?_
    rw [set_set, fo_set (by omega)]
    refine O_owst (i := m - 1 - i) (v' := .i (rv f m i i)) (fl := .norm) (sq_self hH) fo_len (fo_get (by omega)) rfl ?_
    rw [set_set, fo_set (by omega)]
    refine O_nil ?_
    have e1 : fo m (upd (upd (rv f m i) i (rv f m i (m - 1 - i))) (m - 1 - i) (rv f m i i)) = fo m (rv f m (i + 1)) := fo_congr (fun t ht => rv_step c3 ht)
    refine Gh_e ⟨⟨28, [(0, .own id m 0 m), (2, .i (i : Int)), (3, .i ((m - 1 - i : Nat) : Int))]⟩, H.set id (fo m (upd (upd (rv f m i) i (rv f m i (m - 1 - i))) (m - 1 - i) (rv f m i i)))⟩ ?_
    rw [e1]
    refine W_gh ?_
    refine W_reg ?_
    refine O_q 6 ?_
    refine O_nil ?_
    refine Gh_e ⟨⟨28, [(0, .own id m 0 m), (2, .i (addI .i64 (i : Int) 1)), (3, .i (subI .i64 ((m - 1 - i : Nat) : Int) 1))]⟩, H.set id (fo m (rv f m (i + 1)))⟩ ?_
    rw [addI_nat (k := i) (by omega), show subI .i64 ((m - 1 - i : Nat) : Int) 1 = ((m - 1 - (i + 1) : Nat) : Int) by rw [subI_eq (by omega) (by omega)]; omega]
    refine Gh_e ⟨⟨28, [(0, .own id m 0 m), (2, .i ((i + 1 : Nat) : Int)), (3, .i ((m - 1 - (i + 1) : Nat) : Int))]⟩, H.set id (fo m (rv f m (i + 1)))⟩ ?_
    refine ⟨⟨i + 1, rfl, by omega⟩, ?_⟩
    show m - (((i + 1 : Nat) : Int)).toNat < m - ((i : Int)).toNat
    omega
  · have c3 := of_decide_eq_false c
    refine W_exit ?_
    refine X_hit ?_
    refine Gh_e ⟨⟨28, []⟩, H.set id (fo m (rv f m i))⟩ ?_
    refine ⟨[], rfl, ?_⟩
    have : fo m (rv f m i) = fo m fun t => f (m - 1 - t) := fo_congr (fun t ht => by
      unfold rv
      by_cases h3 : t < i ∨ m - 1 - i < t
      · rw [if_pos h3]
      · rw [if_neg h3, show m - 1 - t = t by omega])
    rw [this]; exact hk
end G11

namespace G11
open Go hiding Obj mark
open Go.Pl Go.Am Go.Am.As
set_option linter.unusedVariables false

def lastI : Option Nat → Int
  | none => -1
  | some l => (l : Int)
theorem BdF.mono {c e : Int} {s : BF} (h : BdF c s) (he : c ≤ e) : BdF e s := fun v => by have := h v; omega
theorem range_foldl {β : Type} {f : β → Nat → β} {s : β} {k : Nat} : (List.range (k + 1)).foldl f s = f ((List.range k).foldl f s) k := by rw [List.range_succ, List.foldl_append]; rfl

theorem bf_off {l : List (List Int)} {i j : Nat} {s : BF} (h : ent l i j = -1099511627776) : bfStep (wt l) i j s = s := by
  unfold bfStep wt toO; rw [if_pos h]
theorem bf_no {l : List (List Int)} {i j : Nat} {s : BF} (h : ¬ s.far i + ent l i j < s.far j) : bfStep (wt l) i j s = s := by
  unfold bfStep wt toO
  by_cases e : ent l i j = -1099511627776
  · rw [if_pos e]
  · rw [if_neg e]; dsimp only; rw [if_neg h]
theorem bf_yes {l : List (List Int)} {i j : Nat} {s : BF} (h0 : ent l i j ≠ -1099511627776) (h : s.far i + ent l i j < s.far j) : bfStep (wt l) i j s = ⟨upd s.far j (s.far i + ent l i j), upd s.fr j i, some j⟩ := by
  unfold bfStep wt toO
  rw [if_neg h0]; dsimp only; rw [if_pos h]

def bb (N : Nat) (l : List (List Int)) : Obj := .lv 2 [.i (N : Int), .ro (l.map (cL cI_i64))]
def nh (N : Nat) (l : List (List Int)) (s : BF) : List Obj := [bb N l, fo (N + 1) s.far, fo (N + 1) fun v => (s.fr v : Int)]
theorem nh_1 {N : Nat} {l : List (List Int)} {s : BF} : (nh N l s)[1]? = some (fo (N + 1) s.far) := rfl
theorem nh_2 {N : Nat} {l : List (List Int)} {s : BF} : (nh N l s)[2]? = some (fo (N + 1) fun v => (s.fr v : Int)) := rfl

/-- one bound is looked at -/
theorem neg_in {N : Nat} {l : List (List Int)} {s : BF} {i j : Nat} {r : Nat} {P : ST → Prop} {X : Nat → ST → Prop} {R : ST → Prop} (hi : i < N + 1) (hj : j < N + 1) (hE : ent l i j ≠ -1099511627776 → -64000000 ≤ ent l i j ∧ ent l i j ≤ 64000000) (hb : BdF 1000000000000 s)
    (hk : P ⟨⟨100, [(1, .po 0 0), (3, .i ((N + 1 : Nat) : Int)), (4, .own 1 (N + 1) 0 (N + 1)), (5, .own 2 (N + 1) 0 (N + 1)), (6, .i (lastI (bfStep (wt l) i j s).last)), (7, .i (i : Int)), (20, .i ((N + 1 : Nat) : Int)), (21, .i (r : Int)), (24, .ro (l.map (cL cI_i64))), (25, .i ((N + 1 : Nat) : Int)), (26, .i (i : Int)), (31, .ro ((l.getD i []).map cI_i64)), (32, .i ((N + 1 : Nat) : Int)), (33, .i (j : Int))]⟩, nh N l (bfStep (wt l) i j s)⟩) :
    W E0 hp (.seq (.gh [] (.draw [L11.o 38 (.mov (.t 10)), L11.o 39 (.bin .neq (.t 38) (.c (.int .i64 (-1099511627776)))), L11.o 40 (.mov (.t 39)), ⟨some 41, some (40, true), .mov (.t 4)⟩, ⟨some 42, some (40, true), .mov (.t 7)⟩, ⟨some 43, some (40, true), .iadS 1 (.t 41) (.t 42)⟩, ⟨some 44, some (40, true), .load 1 false (.t 43)⟩, ⟨some 45, some (40, true), .mov (.t 10)⟩, ⟨some 46, some (40, true), .bin .add (.t 44) (.t 45)⟩, ⟨some 47, some (40, true), .mov (.t 4)⟩, ⟨some 48, some (40, true), .mov (.t 9)⟩, ⟨some 49, some (40, true), .iadS 1 (.t 47) (.t 48)⟩, ⟨some 50, some (40, true), .load 1 false (.t 49)⟩, ⟨some 51, some (40, true), .bin .lss (.t 46) (.t 50)⟩, L11.o 52 (.pick (.t 40) (.t 51) (.c (.bool false)))]) [.kill [38, 39, 40, 41, 42, 43, 44, 45, 46, 47, 48, 49, 50, 51]])
      (.gh [] (.cond (.t 52) (.gh [] (.reg [L11.o 53 (.mov (.t 4)), L11.o 54 (.mov (.t 9)), L11.o 55 (.mov (.t 5)), L11.o 56 (.mov (.t 9)), L11.o 57 (.mov (.t 4)), L11.o 58 (.mov (.t 7)), L11.o 59 (.iadS 1 (.t 57) (.t 58)), L11.o 60 (.load 1 false (.t 59)), L11.o 61 (.mov (.t 10)), L11.o 62 (.bin .add (.t 60) (.t 61)), L11.o 63 (.mov (.t 7)), L11.o 64 (.mov (.t 9)), L11.o 65 (.iadS 1 (.t 53) (.t 54)), L11.u (.store 1 (.t 65) (.t 62)), L11.o 66 (.iadS 1 (.t 55) (.t 56)), L11.u (.store 1 (.t 66) (.t 63)), L11.o 6 (.mov (.t 64))]) [.kill [9, 10, 53, 54, 55, 56, 57, 58, 59, 60, 61, 62, 63, 64, 65, 66]]) .skip) [.kill [9, 10, 52]])) 0 P X R
      ⟨⟨100, [(1, .po 0 0), (3, .i ((N + 1 : Nat) : Int)), (4, .own 1 (N + 1) 0 (N + 1)), (5, .own 2 (N + 1) 0 (N + 1)), (6, .i (lastI s.last)), (7, .i (i : Int)), (9, .i (j : Int)), (10, .i (ent l i j)), (20, .i ((N + 1 : Nat) : Int)), (21, .i (r : Int)), (24, .ro (l.map (cL cI_i64))), (25, .i ((N + 1 : Nat) : Int)), (26, .i (i : Int)), (31, .ro ((l.getD i []).map cI_i64)), (32, .i ((N + 1 : Nat) : Int)), (33, .i (j : Int))]⟩, nh N l s⟩ := by
  generalize hx : ent l i j = x at hE ⊢
  have hbi := hb i
  have hbj := hb j
  refine W_seq ?_
  refine W_gh ?_
  refine W_draw ?_
  refine O_q 3 ?_
  refine O_fork (n := 40) (x != -1099511627776) (by kernel_rfl) (fun c => ?_) (fun c => ?_)
  · have c1 : x ≠ -1099511627776 := by simpa using c
    have hxb := hE c1
    refine O_q 2 ?_
    refine O_owld (i := i) nh_1 fo_len (fo_get hi) ?_
    refine O_q 4 ?_
    refine O_owld (i := j) nh_1 fo_len (fo_get hj) ?_
    refine O_q 2 ?_
    refine O_nil ?_
    refine Gh_e ⟨⟨100, [(1, .po 0 0), (3, .i ((N + 1 : Nat) : Int)), (4, .own 1 (N + 1) 0 (N + 1)), (5, .own 2 (N + 1) 0 (N + 1)), (6, .i (lastI s.last)), (7, .i (i : Int)), (9, .i (j : Int)), (10, .i x), (20, .i ((N + 1 : Nat) : Int)), (21, .i (r : Int)), (24, .ro (l.map (cL cI_i64))), (25, .i ((N + 1 : Nat) : Int)), (26, .i (i : Int)), (31, .ro ((l.getD i []).map cI_i64)), (32, .i ((N + 1 : Nat) : Int)), (33, .i (j : Int)), (52, .bool (decide (addI .i64 (s.far i) x < s.far j)))]⟩, nh N l s⟩ ?_
    have ea : addI .i64 (s.far i) x = s.far i + x := addI_eq (by omega) (by omega)
    refine W_gh ?_
    refine W_cond (c := decide (addI .i64 (s.far i) x < s.far j)) (by kernel_rfl) (fun c2 => ?_) (fun c2 => ?_)
    · have c3 := of_decide_eq_true c2
      rw [ea] at c3
      rw [c2]
      refine W_gh ?_
      refine W_reg ?_
      refine O_q 6 ?_
      refine O_owld (i := i) nh_1 fo_len (fo_get hi) ?_
      refine O_q 4 ?_
      refine O_owst (i := j) (v' := .i (addI .i64 (s.far i) x)) nh_1 fo_len (fo_get hj) rfl ?_
      rw [fo_set hj]
      refine O_H [bb N l, fo (N + 1) (upd s.far j (addI .i64 (s.far i) x)), fo (N + 1) fun v => (s.fr v : Int)] ?_
      refine O_owst (i := j) (fl := .norm) (v' := .i (i : Int)) (es := (rowL (N + 1) fun v => (s.fr v : Int)).map cI_i64) (id := 2) rfl fo_len (fo_get hj) rfl ?_
      rw [fo_set hj]
      refine O_q 1 ?_
      refine O_nil ?_
      have e2 : bfStep (wt l) i j s = ⟨upd s.far j (s.far i + x), upd s.fr j i, some j⟩ := by rw [← hx] at c3 c1 ⊢; exact bf_yes c1 c3
      have e3 : upd (fun v => (s.fr v : Int)) j (i : Int) = fun v => ((upd s.fr j i v : Nat) : Int) := by
        funext v; unfold upd; split <;> rfl
      rw [e2] at hk
      rw [e3, ea]
      refine Gh_e ⟨⟨100, [(1, .po 0 0), (3, .i ((N + 1 : Nat) : Int)), (4, .own 1 (N + 1) 0 (N + 1)), (5, .own 2 (N + 1) 0 (N + 1)), (6, .i (j : Int)), (7, .i (i : Int)), (20, .i ((N + 1 : Nat) : Int)), (21, .i (r : Int)), (24, .ro (l.map (cL cI_i64))), (25, .i ((N + 1 : Nat) : Int)), (26, .i (i : Int)), (31, .ro ((l.getD i []).map cI_i64)), (32, .i ((N + 1 : Nat) : Int)), (33, .i (j : Int)), (52, .bool true)]⟩, nh N l ⟨upd s.far j (s.far i + x), upd s.fr j i, some j⟩⟩ ?_
      exact Gh_e _ hk (by kernel_rfl)
    · have c3 := of_decide_eq_false c2
      rw [ea] at c3
      have e2 : bfStep (wt l) i j s = s := by rw [← hx] at c3; exact bf_no c3
      rw [e2] at hk
      refine W_skip ?_
      exact Gh_e _ hk (by kernel_rfl)
  · have c1 : x = -1099511627776 := by simpa using c
    have e2 : bfStep (wt l) i j s = s := by rw [← hx] at c1; exact bf_off c1
    rw [e2] at hk
    refine O_q 12 ?_
    refine O_nil ?_
    refine Gh_e ⟨⟨100, [(1, .po 0 0), (3, .i ((N + 1 : Nat) : Int)), (4, .own 1 (N + 1) 0 (N + 1)), (5, .own 2 (N + 1) 0 (N + 1)), (6, .i (lastI s.last)), (7, .i (i : Int)), (9, .i (j : Int)), (10, .i x), (20, .i ((N + 1 : Nat) : Int)), (21, .i (r : Int)), (24, .ro (l.map (cL cI_i64))), (25, .i ((N + 1 : Nat) : Int)), (26, .i (i : Int)), (31, .ro ((l.getD i []).map cI_i64)), (32, .i ((N + 1 : Nat) : Int)), (33, .i (j : Int)), (52, .bool false)]⟩, nh N l s⟩ ?_
    refine W_gh ?_
    refine W_cond (c := false) (by kernel_rfl) (fun c => by simp at c) (fun _ => ?_)
    refine W_skip ?_
    exact Gh_e _ hk (by kernel_rfl)
end G11

namespace G11
open Go hiding Obj mark
open Go.Pl Go.Am Go.Am.As
set_option linter.unusedVariables false

theorem act_mks {G : Nat → List AV} {pl d n : Nat} {x y : RX} {t : T} {H : List Obj} (hx : evT G t x = .i (n : Int)) (hy : evT G t y = .i (n : Int)) (hn : n ≤ 1000) (hH : H[pl]? = some .rsv) :
    actDT G (fun _ _ => none) pl ⟨some d, none, .mks 1 [.int .i64 0] 8 x y⟩ t H = some (.own pl n 0 n, H.set pl (fo n fun _ => 0), { w := [pl] }) := by
  obtain ⟨hl, _⟩ := List.getElem?_eq_some_iff.1 hH
  have e1 : wantT t (none : Option (Nat × Bool)) = some true := rfl
  have e2 : plOk H pl (.mks 1 [.int .i64 0] 8 x y) = true := by simp [plOk, hH]
  have e4 : List.replicate n [AV.i 0] = (rowL n fun _ => 0).map cI_i64 := by
    unfold rowL
    rw [List.map_map]
    refine List.ext_getElem? (fun k => ?_)
    by_cases hk : k < n
    · simp [hk, cI_i64]
    · rw [List.getElem?_eq_none (by simp; omega), List.getElem?_eq_none (by simp; omega)]
  have e3 : evalOpe (evT G t) (fun _ => false) (fun _ _ => none) (fun _ _ _ => none) pl (.mks 1 [.int .i64 0] 8 x y) H = some (.own pl n 0 n, H.set pl (fo n fun _ => 0)) := by
    simp only [evalOpe, RO.kind, evalWe, hx, hy]
    rw [if_pos ⟨trivial, by omega, by omega, by omega, rfl, rfl⟩]
    simp [putObj, hl, e4]
  simp only [actDT, evalDe, e1, e2, if_true, e3]
  rfl

theorem neg_pt {N : Nat} {l : List (List Int)} (hN : N + 1 ≤ 7) (hl : Sq (N + 1) l) (hd : ∀ i, i < N + 1 → wt l i i = some 0) (hM : ∀ i j, i < N + 1 → j < N + 1 → ent l i j ≠ -1099511627776 → -64000000 ≤ ent l i j ∧ ent l i j ≤ 64000000)
    (hM2 : ∀ i j x, wt l i j = some x → -64000000 ≤ x ∧ x ≤ 64000000) :
    Pt E0 hp 85 [.agg [.i (N : Int), .ro (l.map (cL cI_i64))]] (match rounds (N + 1) (wt l) (N + 1) bf0 with | none => .nils | some s => .ro (((cycL (N + 1) s).map fun x : Nat => (x : Int)).map cI_i64)) := by
  refine Pt_W fn85 rfl (by decide) ?_
  generalize hres : (match rounds (N + 1) (wt l) (N + 1) bf0 with | none => AV.nils | some s => .ro (((cycL (N + 1) s).map fun x : Nat => (x : Int)).map cI_i64)) = res
  refine W_seq ?_
  refine W_gh ?_
  refine W_reg ?_
  refine O_p 2 ?_
  refine O_nil ?_
  refine Gh_e ⟨⟨100, [(1, .po 0 0)]⟩, [bb N l]⟩ ?_
  refine W_seq ?_
  refine W_gh ?_
  refine W_reg ?_
  refine O_p 4 ?_
  refine O_nil ?_
  refine Gh_e ⟨⟨100, [(1, .po 0 0), (3, .i (addI .i64 (N : Int) 1))]⟩, [bb N l]⟩ ?_
  rw [addI_nat (k := N) (by omega)]
  refine W_seq ?_
  refine W_gh ?_
  refine W_drawW (L := 1) rfl ?_
  refine WD_ps 1 (by kernel_rfl) ?_
  refine WD_act (act_mks (n := N + 1) (by kernel_rfl) (by kernel_rfl) (by omega) (by rfl)) ?_
  refine WD_ps 1 (by kernel_rfl) ?_
  refine WD_act (act_mks (n := N + 1) (by kernel_rfl) (by kernel_rfl) (by omega) (by rfl)) ?_
  refine WD_ps 2 (by kernel_rfl) ?_
  refine WD_nil ⟨by kernel_rfl, ?_⟩
  have hfr0 : (fun _ => (0 : Int)) = fun v => ((bf0.fr v : Nat) : Int) := rfl
  refine Gh_one (s1 := ⟨⟨100, [(1, .po 0 0), (3, .i ((N + 1 : Nat) : Int)), (4, .own 1 (N + 1) 0 (N + 1)), (5, .own 2 (N + 1) 0 (N + 1))]⟩, nh N l bf0⟩) (by kernel_rfl) ?_
  refine Gh_trunc0 rfl ?_
  refine Gh_nil ?_
  refine W_seq ?_
  refine W_reg ?_
  refine O_p 1 ?_
  refine O_nil ?_
  refine W_seq ?_
  refine W_seq ?_
  refine W_reg ?_
  refine O_p 2 ?_
  refine O_nil ?_
  refine W_gh (W_block ?_)
  refine W_lp (fun s' => ∃ (r : Nat) (s : BF), s' = ⟨⟨100, [(1, .po 0 0), (3, .i ((N + 1 : Nat) : Int)), (4, .own 1 (N + 1) 0 (N + 1)), (5, .own 2 (N + 1) 0 (N + 1)), (6, .i (lastI s.last)), (20, .i ((N + 1 : Nat) : Int)), (21, .i (r : Int))]⟩, nh N l s⟩ ∧ r ≤ N + 1 ∧ BdF (64000000 * (49 * (r : Int))) s ∧ rounds (N + 1) (wt l) (N + 1) bf0 = rounds (N + 1) (wt l) (N + 1 - r) s)
    (fun s' => match s'.tmps.get 21 with | .int _ k => N + 1 - k.toNat | _ => 0) ⟨0, bf0, rfl, by omega, fun v => by show -(64000000 * (49 * ((0 : Nat) : Int))) ≤ (0 : Int) ∧ (0 : Int) ≤ 0; omega, rfl⟩ ?_
  rintro s' ⟨r, s, rfl, hr, hb, hrd⟩
  refine W_gh ?_
  refine W_seq ?_
  refine W_reg ?_
  refine O_p 1 ?_
  refine O_nil ?_
  refine W_seq ?_
  refine W_gh ?_
  refine W_cond (c := decide ((r : Int) < ((N + 1 : Nat) : Int))) (by kernel_rfl) (fun c => ?_) (fun c => ?_)
  · have c3 : r < N + 1 := by have := of_decide_eq_true c; omega
    have hrs : rounds (N + 1) (wt l) (N + 1 - r) s = if (bfRound (N + 1) (wt l) s).last.isNone then none else rounds (N + 1) (wt l) (N + 1 - (r + 1)) (bfRound (N + 1) (wt l) s) := by
      rw [show N + 1 - r = (N + 1 - (r + 1)) + 1 by omega]; rfl
    refine W_skip ?_
    refine Gh_e ⟨⟨100, [(1, .po 0 0), (3, .i ((N + 1 : Nat) : Int)), (4, .own 1 (N + 1) 0 (N + 1)), (5, .own 2 (N + 1) 0 (N + 1)), (6, .i (lastI s.last)), (20, .i ((N + 1 : Nat) : Int)), (21, .i (r : Int))]⟩, nh N l s⟩ ?_
    refine W_seq ?_
    refine W_gh ?_
    refine W_block ?_
    refine W_seq ?_
    refine W_reg ?_
    refine O_p 1 ?_
    refine O_nil ?_
    refine W_seq ?_
    refine W_seq ?_
    refine W_gh ?_
    refine W_reg ?_
    refine O_p 4 ?_
    refine O_nil ?_
    have hrows : ((l.map (cL cI_i64)).length : Int) = ((N + 1 : Nat) : Int) := by rw [List.length_map, hl.1]
    refine Gh_e ⟨⟨100, [(1, .po 0 0), (3, .i ((N + 1 : Nat) : Int)), (4, .own 1 (N + 1) 0 (N + 1)), (5, .own 2 (N + 1) 0 (N + 1)), (6, .i (lastI none)), (20, .i ((N + 1 : Nat) : Int)), (21, .i (r : Int)), (24, .ro (l.map (cL cI_i64))), (25, .i ((l.map (cL cI_i64)).length : Int)), (26, .i ((0 : Nat) : Int))]⟩, nh N l { s with last := none }⟩ ?_
    rw [hrows]
    refine W_gh (W_block ?_)
    refine W_lp (fun s' => ∃ i : Nat, s' = ⟨⟨100, [(1, .po 0 0), (3, .i ((N + 1 : Nat) : Int)), (4, .own 1 (N + 1) 0 (N + 1)), (5, .own 2 (N + 1) 0 (N + 1)), (6, .i (lastI ((List.range i).foldl (fun s i => bfRow (N + 1) (wt l) i s) { s with last := none }).last)), (20, .i ((N + 1 : Nat) : Int)), (21, .i (r : Int)), (24, .ro (l.map (cL cI_i64))), (25, .i ((N + 1 : Nat) : Int)), (26, .i (i : Int))]⟩, nh N l ((List.range i).foldl (fun s i => bfRow (N + 1) (wt l) i s) { s with last := none })⟩ ∧ i ≤ N + 1 ∧ BdF (64000000 * (49 * (r : Int) + 7 * (i : Int))) ((List.range i).foldl (fun s i => bfRow (N + 1) (wt l) i s) { s with last := none }))
      (fun s' => match s'.tmps.get 26 with | .int _ k => N + 1 - k.toNat | _ => 0) ⟨0, rfl, by omega, BdF.mono (s := { s with last := none }) (fun v => hb v) (by omega)⟩ ?_
    rintro s' ⟨i, rfl, hi, hbi⟩
    have hsi : (List.range (i + 1)).foldl (fun s i => bfRow (N + 1) (wt l) i s) { s with last := none } = bfRow (N + 1) (wt l) i ((List.range i).foldl (fun s i => bfRow (N + 1) (wt l) i s) { s with last := none }) := range_foldl
    have hrnd : (List.range (N + 1)).foldl (fun s i => bfRow (N + 1) (wt l) i s) { s with last := none } = bfRound (N + 1) (wt l) s := rfl
    generalize hSi : (List.range i).foldl (fun s i => bfRow (N + 1) (wt l) i s) { s with last := none } = si at hbi hsi ⊢
    refine W_gh ?_
    refine W_seq ?_
    refine W_reg ?_
    refine O_p 1 ?_
    refine O_nil ?_
    refine W_seq ?_
    refine W_gh ?_
    refine W_cond (c := decide ((i : Int) < ((N + 1 : Nat) : Int))) (by kernel_rfl) (fun c => ?_) (fun c => ?_)
    · have c4 : i < N + 1 := by have := of_decide_eq_true c; omega
      refine W_skip ?_
      refine Gh_e ⟨⟨100, [(1, .po 0 0), (3, .i ((N + 1 : Nat) : Int)), (4, .own 1 (N + 1) 0 (N + 1)), (5, .own 2 (N + 1) 0 (N + 1)), (6, .i (lastI si.last)), (20, .i ((N + 1 : Nat) : Int)), (21, .i (r : Int)), (24, .ro (l.map (cL cI_i64))), (25, .i ((N + 1 : Nat) : Int)), (26, .i (i : Int))]⟩, nh N l si⟩ ?_
      refine W_seq ?_
      refine W_gh ?_
      refine W_block ?_
      refine W_seq ?_
      refine W_gh ?_
      refine W_reg ?_
      refine O_q 1 ?_
      refine O_rold (i := i) (by kernel_rfl) (hl.row c4) ?_
      refine O_q 2 ?_
      refine O_nil ?_
      refine Gh_e ⟨⟨100, [(1, .po 0 0), (3, .i ((N + 1 : Nat) : Int)), (4, .own 1 (N + 1) 0 (N + 1)), (5, .own 2 (N + 1) 0 (N + 1)), (6, .i (lastI si.last)), (7, .i (i : Int)), (8, .ro ((l.getD i []).map cI_i64)), (20, .i ((N + 1 : Nat) : Int)), (21, .i (r : Int)), (24, .ro (l.map (cL cI_i64))), (25, .i ((N + 1 : Nat) : Int)), (26, .i (i : Int))]⟩, nh N l si⟩ ?_
      refine W_seq ?_
      refine W_gh ?_
      refine W_reg ?_
      refine O_p 3 ?_
      refine O_nil ?_
      have hrow : ((((l.getD i []).map cI_i64).length : Nat) : Int) = ((N + 1 : Nat) : Int) := by
        have hi' : i < l.length := by rw [hl.1]; exact c4
        rw [List.length_map, List.getD_eq_getElem?_getD, List.getElem?_eq_getElem hi']
        have := hl.2 _ (List.getElem_mem hi')
        simp [this]
      refine Gh_e ⟨⟨100, [(1, .po 0 0), (3, .i ((N + 1 : Nat) : Int)), (4, .own 1 (N + 1) 0 (N + 1)), (5, .own 2 (N + 1) 0 (N + 1)), (6, .i (lastI si.last)), (7, .i (i : Int)), (20, .i ((N + 1 : Nat) : Int)), (21, .i (r : Int)), (24, .ro (l.map (cL cI_i64))), (25, .i ((N + 1 : Nat) : Int)), (26, .i (i : Int)), (31, .ro ((l.getD i []).map cI_i64)), (32, .i (((l.getD i []).map cI_i64).length : Int)), (33, .i ((0 : Nat) : Int))]⟩, nh N l si⟩ ?_
      rw [hrow]
      refine W_gh (W_block ?_)
      refine W_lp (fun s' => ∃ j : Nat, s' = ⟨⟨100, [(1, .po 0 0), (3, .i ((N + 1 : Nat) : Int)), (4, .own 1 (N + 1) 0 (N + 1)), (5, .own 2 (N + 1) 0 (N + 1)), (6, .i (lastI ((List.range j).foldl (fun s j => bfStep (wt l) i j s) si).last)), (7, .i (i : Int)), (20, .i ((N + 1 : Nat) : Int)), (21, .i (r : Int)), (24, .ro (l.map (cL cI_i64))), (25, .i ((N + 1 : Nat) : Int)), (26, .i (i : Int)), (31, .ro ((l.getD i []).map cI_i64)), (32, .i ((N + 1 : Nat) : Int)), (33, .i (j : Int))]⟩, nh N l ((List.range j).foldl (fun s j => bfStep (wt l) i j s) si)⟩ ∧ j ≤ N + 1 ∧ BdF (64000000 * (49 * (r : Int) + 7 * (i : Int) + (j : Int))) ((List.range j).foldl (fun s j => bfStep (wt l) i j s) si))
        (fun s' => match s'.tmps.get 33 with | .int _ k => N + 1 - k.toNat | _ => 0) ⟨0, rfl, by omega, BdF.mono (s := si) hbi (by omega)⟩ ?_
      rintro s' ⟨j, rfl, hj, hbj⟩
      have hsj : (List.range (j + 1)).foldl (fun s j => bfStep (wt l) i j s) si = bfStep (wt l) i j ((List.range j).foldl (fun s j => bfStep (wt l) i j s) si) := range_foldl
      have hrw : (List.range (N + 1)).foldl (fun s j => bfStep (wt l) i j s) si = bfRow (N + 1) (wt l) i si := rfl
      generalize hSj : (List.range j).foldl (fun s j => bfStep (wt l) i j s) si = sj at hbj hsj ⊢
      refine W_gh ?_
      refine W_seq ?_
      refine W_reg ?_
      refine O_p 1 ?_
      refine O_nil ?_
      refine W_seq ?_
      refine W_gh ?_
      refine W_cond (c := decide ((j : Int) < ((N + 1 : Nat) : Int))) (by kernel_rfl) (fun c => ?_) (fun c => ?_)
      · have c5 : j < N + 1 := by have := of_decide_eq_true c; omega
        refine W_skip ?_
        refine Gh_e ⟨⟨100, [(1, .po 0 0), (3, .i ((N + 1 : Nat) : Int)), (4, .own 1 (N + 1) 0 (N + 1)), (5, .own 2 (N + 1) 0 (N + 1)), (6, .i (lastI sj.last)), (7, .i (i : Int)), (20, .i ((N + 1 : Nat) : Int)), (21, .i (r : Int)), (24, .ro (l.map (cL cI_i64))), (25, .i ((N + 1 : Nat) : Int)), (26, .i (i : Int)), (31, .ro ((l.getD i []).map cI_i64)), (32, .i ((N + 1 : Nat) : Int)), (33, .i (j : Int))]⟩, nh N l sj⟩ ?_
        refine W_seq ?_
        refine W_gh ?_
        refine W_block ?_
        refine W_seq ?_
        refine W_gh ?_
        refine W_reg ?_
        refine O_q 1 ?_
        refine O_rold (i := j) (by kernel_rfl) (hl.el c4 c5) ?_
        refine O_q 2 ?_
        refine O_nil ?_
        refine Gh_e ⟨⟨100, [(1, .po 0 0), (3, .i ((N + 1 : Nat) : Int)), (4, .own 1 (N + 1) 0 (N + 1)), (5, .own 2 (N + 1) 0 (N + 1)), (6, .i (lastI sj.last)), (7, .i (i : Int)), (9, .i (j : Int)), (10, .i (ent l i j)), (20, .i ((N + 1 : Nat) : Int)), (21, .i (r : Int)), (24, .ro (l.map (cL cI_i64))), (25, .i ((N + 1 : Nat) : Int)), (26, .i (i : Int)), (31, .ro ((l.getD i []).map cI_i64)), (32, .i ((N + 1 : Nat) : Int)), (33, .i (j : Int))]⟩, nh N l sj⟩ ?_
        refine neg_in c4 c5 (hM i j c4 c5) (hbj.mono (by omega)) ?_
        refine Gh_e ⟨⟨100, [(1, .po 0 0), (3, .i ((N + 1 : Nat) : Int)), (4, .own 1 (N + 1) 0 (N + 1)), (5, .own 2 (N + 1) 0 (N + 1)), (6, .i (lastI (bfStep (wt l) i j sj).last)), (7, .i (i : Int)), (20, .i ((N + 1 : Nat) : Int)), (21, .i (r : Int)), (24, .ro (l.map (cL cI_i64))), (25, .i ((N + 1 : Nat) : Int)), (26, .i (i : Int)), (31, .ro ((l.getD i []).map cI_i64)), (32, .i ((N + 1 : Nat) : Int)), (33, .i (j : Int))]⟩, nh N l (bfStep (wt l) i j sj)⟩ ?_
        refine W_gh ?_
        refine W_reg ?_
        refine O_q 2 ?_
        refine O_nil ?_
        refine Gh_e ⟨⟨100, [(1, .po 0 0), (3, .i ((N + 1 : Nat) : Int)), (4, .own 1 (N + 1) 0 (N + 1)), (5, .own 2 (N + 1) 0 (N + 1)), (6, .i (lastI (bfStep (wt l) i j sj).last)), (7, .i (i : Int)), (20, .i ((N + 1 : Nat) : Int)), (21, .i (r : Int)), (24, .ro (l.map (cL cI_i64))), (25, .i ((N + 1 : Nat) : Int)), (26, .i (i : Int)), (31, .ro ((l.getD i []).map cI_i64)), (32, .i ((N + 1 : Nat) : Int)), (33, .i (addI .i64 (j : Int) 1))]⟩, nh N l (bfStep (wt l) i j sj)⟩ ?_
        rw [addI_nat (k := j) (by omega)]
        refine Gh_e ⟨⟨100, [(1, .po 0 0), (3, .i ((N + 1 : Nat) : Int)), (4, .own 1 (N + 1) 0 (N + 1)), (5, .own 2 (N + 1) 0 (N + 1)), (6, .i (lastI (bfStep (wt l) i j sj).last)), (7, .i (i : Int)), (20, .i ((N + 1 : Nat) : Int)), (21, .i (r : Int)), (24, .ro (l.map (cL cI_i64))), (25, .i ((N + 1 : Nat) : Int)), (26, .i (i : Int)), (31, .ro ((l.getD i []).map cI_i64)), (32, .i ((N + 1 : Nat) : Int)), (33, .i ((j + 1 : Nat) : Int))]⟩, nh N l (bfStep (wt l) i j sj)⟩ ?_
        refine ⟨⟨j + 1, by rw [hsj], by omega, ?_⟩, ?_⟩
        · rw [hsj]
          exact (hbj.step (by omega) hM2 i j).mono (by omega)
        · show N + 1 - (((j + 1 : Nat) : Int)).toNat < N + 1 - ((j : Int)).toNat
          omega
      · have c5 := of_decide_eq_false c
        obtain rfl : j = N + 1 := by omega
        rw [hrw] at hSj
        subst hSj
        refine W_exit ?_
        refine X_hit ?_
        refine Gh_e ⟨⟨100, [(1, .po 0 0), (3, .i ((N + 1 : Nat) : Int)), (4, .own 1 (N + 1) 0 (N + 1)), (5, .own 2 (N + 1) 0 (N + 1)), (6, .i (lastI (bfRow (N + 1) (wt l) i si).last)), (20, .i ((N + 1 : Nat) : Int)), (21, .i (r : Int)), (24, .ro (l.map (cL cI_i64))), (25, .i ((N + 1 : Nat) : Int)), (26, .i (i : Int))]⟩, nh N l (bfRow (N + 1) (wt l) i si)⟩ ?_
        refine Gh_e ⟨⟨100, [(1, .po 0 0), (3, .i ((N + 1 : Nat) : Int)), (4, .own 1 (N + 1) 0 (N + 1)), (5, .own 2 (N + 1) 0 (N + 1)), (6, .i (lastI (bfRow (N + 1) (wt l) i si).last)), (20, .i ((N + 1 : Nat) : Int)), (21, .i (r : Int)), (24, .ro (l.map (cL cI_i64))), (25, .i ((N + 1 : Nat) : Int)), (26, .i (i : Int))]⟩, nh N l (bfRow (N + 1) (wt l) i si)⟩ ?_
        refine W_gh ?_
        refine W_reg ?_
        refine O_q 2 ?_
        refine O_nil ?_
        refine Gh_e ⟨⟨100, [(1, .po 0 0), (3, .i ((N + 1 : Nat) : Int)), (4, .own 1 (N + 1) 0 (N + 1)), (5, .own 2 (N + 1) 0 (N + 1)), (6, .i (lastI (bfRow (N + 1) (wt l) i si).last)), (20, .i ((N + 1 : Nat) : Int)), (21, .i (r : Int)), (24, .ro (l.map (cL cI_i64))), (25, .i ((N + 1 : Nat) : Int)), (26, .i (addI .i64 (i : Int) 1))]⟩, nh N l (bfRow (N + 1) (wt l) i si)⟩ ?_
        rw [addI_nat (k := i) (by omega)]
        refine Gh_e ⟨⟨100, [(1, .po 0 0), (3, .i ((N + 1 : Nat) : Int)), (4, .own 1 (N + 1) 0 (N + 1)), (5, .own 2 (N + 1) 0 (N + 1)), (6, .i (lastI (bfRow (N + 1) (wt l) i si).last)), (20, .i ((N + 1 : Nat) : Int)), (21, .i (r : Int)), (24, .ro (l.map (cL cI_i64))), (25, .i ((N + 1 : Nat) : Int)), (26, .i ((i + 1 : Nat) : Int))]⟩, nh N l (bfRow (N + 1) (wt l) i si)⟩ ?_
        refine ⟨⟨i + 1, by rw [hsi], by omega, ?_⟩, ?_⟩
        · rw [hsi]
          exact hbj.mono (by omega)
        · show N + 1 - (((i + 1 : Nat) : Int)).toNat < N + 1 - ((i : Int)).toNat
          omega
    · have c4 := of_decide_eq_false c
      obtain rfl : i = N + 1 := by omega
      rw [hrnd] at hSi
      subst hSi
      refine W_exit ?_
      refine X_hit ?_
      refine Gh_e ⟨⟨100, [(1, .po 0 0), (3, .i ((N + 1 : Nat) : Int)), (4, .own 1 (N + 1) 0 (N + 1)), (5, .own 2 (N + 1) 0 (N + 1)), (6, .i (lastI (bfRound (N + 1) (wt l) s).last)), (20, .i ((N + 1 : Nat) : Int)), (21, .i (r : Int))]⟩, nh N l (bfRound (N + 1) (wt l) s)⟩ ?_
      refine W_seq ?_
      refine W_gh ?_
      refine W_reg ?_
      refine O_q 2 ?_
      refine O_nil ?_
      refine Gh_e ⟨⟨100, [(1, .po 0 0), (3, .i ((N + 1 : Nat) : Int)), (4, .own 1 (N + 1) 0 (N + 1)), (5, .own 2 (N + 1) 0 (N + 1)), (6, .i (lastI (bfRound (N + 1) (wt l) s).last)), (20, .i ((N + 1 : Nat) : Int)), (21, .i (r : Int)), (70, .bool (decide (lastI (bfRound (N + 1) (wt l) s).last < 0)))]⟩, nh N l (bfRound (N + 1) (wt l) s)⟩ ?_
      have hli : decide (lastI (bfRound (N + 1) (wt l) s).last < 0) = (bfRound (N + 1) (wt l) s).last.isNone := by
        cases (bfRound (N + 1) (wt l) s).last with
        | none => rfl
        | some k => show decide ((k : Int) < 0) = false; rw [decide_eq_false_iff_not]; omega
      refine W_gh ?_
      refine W_cond (c := decide (lastI (bfRound (N + 1) (wt l) s).last < 0)) (by kernel_rfl) (fun c => ?_) (fun c => ?_)
      · rw [hli] at c
        rw [hrs, c, if_pos rfl] at hrd
        refine W_seq ?_
        refine W_reg ?_
        refine O_q 1 ?_
        refine O_nil ?_
        refine W_ret ?_
        rw [hrd] at hres
        exact Fin_free (l := [.nils]) (by kernel_rfl) (by rw [← hres]; rfl) (by rw [← hres]; rfl)
      · rw [hli] at c
        rw [hrs, c] at hrd
        simp only [Bool.false_eq_true, if_false] at hrd
        refine W_skip ?_
        refine Gh_e ⟨⟨100, [(1, .po 0 0), (3, .i ((N + 1 : Nat) : Int)), (4, .own 1 (N + 1) 0 (N + 1)), (5, .own 2 (N + 1) 0 (N + 1)), (6, .i (lastI (bfRound (N + 1) (wt l) s).last)), (20, .i ((N + 1 : Nat) : Int)), (21, .i (r : Int))]⟩, nh N l (bfRound (N + 1) (wt l) s)⟩ ?_
        refine Gh_e ⟨⟨100, [(1, .po 0 0), (3, .i ((N + 1 : Nat) : Int)), (4, .own 1 (N + 1) 0 (N + 1)), (5, .own 2 (N + 1) 0 (N + 1)), (6, .i (lastI (bfRound (N + 1) (wt l) s).last)), (20, .i ((N + 1 : Nat) : Int)), (21, .i (r : Int))]⟩, nh N l (bfRound (N + 1) (wt l) s)⟩ ?_
        refine W_gh ?_
        refine W_reg ?_
        refine O_q 2 ?_
        refine O_nil ?_
        refine Gh_e ⟨⟨100, [(1, .po 0 0), (3, .i ((N + 1 : Nat) : Int)), (4, .own 1 (N + 1) 0 (N + 1)), (5, .own 2 (N + 1) 0 (N + 1)), (6, .i (lastI (bfRound (N + 1) (wt l) s).last)), (20, .i ((N + 1 : Nat) : Int)), (21, .i (addI .i64 (r : Int) 1))]⟩, nh N l (bfRound (N + 1) (wt l) s)⟩ ?_
        rw [addI_nat (k := r) (by omega)]
        refine Gh_e ⟨⟨100, [(1, .po 0 0), (3, .i ((N + 1 : Nat) : Int)), (4, .own 1 (N + 1) 0 (N + 1)), (5, .own 2 (N + 1) 0 (N + 1)), (6, .i (lastI (bfRound (N + 1) (wt l) s).last)), (20, .i ((N + 1 : Nat) : Int)), (21, .i ((r + 1 : Nat) : Int))]⟩, nh N l (bfRound (N + 1) (wt l) s)⟩ ?_
        refine ⟨⟨r + 1, bfRound (N + 1) (wt l) s, rfl, by omega, hbi.mono (by omega), hrd⟩, ?_⟩
        show N + 1 - (((r + 1 : Nat) : Int)).toNat < N + 1 - ((r : Int)).toNat
        omega
  have c3 := of_decide_eq_false c
  obtain rfl : r = N + 1 := by omega
  rw [show N + 1 - (N + 1) = 0 by omega] at hrd
  have hsome : rounds (N + 1) (wt l) (N + 1) bf0 = some s := hrd
  rw [hsome] at hres
  obtain ⟨la, k, x, hc⟩ := neg_some (by omega) hd hsome
  refine W_exit ?_
  refine X_hit ?_
  refine Gh_e ⟨⟨100, [(3, .i ((N + 1 : Nat) : Int)), (5, .own 2 (N + 1) 0 (N + 1)), (6, .i (lastI s.last))]⟩, nh N l s⟩ ?_
  rw [show lastI s.last = ((itn s.fr la 0 : Nat) : Int) by rw [hc.hl]; rfl]
  refine W_seq ?_
  refine W_seq ?_
  refine W_gh ?_
  refine W_reg ?_
  refine O_q 2 ?_
  refine O_nil ?_
  refine Gh_e ⟨⟨100, [(5, .own 2 (N + 1) 0 (N + 1)), (6, .i ((itn s.fr la 0 : Nat) : Int)), (72, .i ((N + 1 : Nat) : Int)), (73, .i ((0 : Nat) : Int))]⟩, nh N l s⟩ ?_
  refine W_gh (W_block ?_)
  refine W_lp (fun s' => ∃ k : Nat, s' = ⟨⟨100, [(5, .own 2 (N + 1) 0 (N + 1)), (6, .i ((itn s.fr la k : Nat) : Int)), (72, .i ((N + 1 : Nat) : Int)), (73, .i (k : Int))]⟩, nh N l s⟩ ∧ k ≤ N + 1)
    (fun s' => match s'.tmps.get 73 with | .int _ k => N + 1 - k.toNat | _ => 0) ⟨0, rfl, by omega⟩ ?_
  rintro s' ⟨e, rfl, he⟩
  refine W_gh ?_
  refine W_seq ?_
  refine W_reg ?_
  refine O_p 1 ?_
  refine O_nil ?_
  refine W_seq ?_
  refine W_gh ?_
  refine W_cond (c := decide ((e : Int) < ((N + 1 : Nat) : Int))) (by kernel_rfl) (fun c => ?_) (fun c => ?_)
  · have c4 : e < N + 1 := by have := of_decide_eq_true c; omega
    refine W_skip ?_
    refine Gh_e ⟨⟨100, [(5, .own 2 (N + 1) 0 (N + 1)), (6, .i ((itn s.fr la e : Nat) : Int)), (72, .i ((N + 1 : Nat) : Int)), (73, .i (e : Int))]⟩, nh N l s⟩ ?_
    refine W_seq ?_
    refine W_block ?_
    refine W_gh ?_
    refine W_reg ?_
    refine O_q 2 ?_
    refine O_owld (i := itn s.fr la e) nh_2 fo_len (fo_get (hc.lt e)) ?_
    refine O_q 1 ?_
    refine O_nil ?_
    refine Gh_e ⟨⟨100, [(5, .own 2 (N + 1) 0 (N + 1)), (6, .i ((itn s.fr la (e + 1) : Nat) : Int)), (72, .i ((N + 1 : Nat) : Int)), (73, .i (e : Int))]⟩, nh N l s⟩ ?_
    refine W_gh ?_
    refine W_reg ?_
    refine O_q 2 ?_
    refine O_nil ?_
    refine Gh_e ⟨⟨100, [(5, .own 2 (N + 1) 0 (N + 1)), (6, .i ((itn s.fr la (e + 1) : Nat) : Int)), (72, .i ((N + 1 : Nat) : Int)), (73, .i (addI .i64 (e : Int) 1))]⟩, nh N l s⟩ ?_
    rw [addI_nat (k := e) (by omega)]
    refine Gh_e ⟨⟨100, [(5, .own 2 (N + 1) 0 (N + 1)), (6, .i ((itn s.fr la (e + 1) : Nat) : Int)), (72, .i ((N + 1 : Nat) : Int)), (73, .i ((e + 1 : Nat) : Int))]⟩, nh N l s⟩ ?_
    refine ⟨⟨e + 1, rfl, by omega⟩, ?_⟩
    show N + 1 - (((e + 1 : Nat) : Int)).toNat < N + 1 - ((e : Int)).toNat
    omega
  have c4 := of_decide_eq_false c
  obtain rfl : e = N + 1 := by omega
  have hla : s.last.getD 0 = la := by rw [hc.hl]; rfl
  have hcy : cycL (N + 1) s = (itn s.fr la (N + 1) :: chase s.fr (itn s.fr la (N + 1)) (N + 1) (s.fr (itn s.fr la (N + 1)))).reverse := by unfold cycL; rw [hla]
  have hlt := hc.lt (N + 1)
  have hltA : ∀ m, itn s.fr (itn s.fr la (N + 1)) m < N + 1 := fun m => by rw [← itn_add]; exact hc.lt _
  have hbk : itn s.fr (itn s.fr la (N + 1)) k = itn s.fr la (N + 1) := by rw [← itn_add]; exact hc.back
  have hk1 := hc.pos
  have hk2 := hc.le
  generalize itn s.fr la (N + 1) = a at hcy hlt hltA hbk ⊢
  refine W_exit ?_
  refine X_hit ?_
  refine Gh_e ⟨⟨100, [(5, .own 2 (N + 1) 0 (N + 1)), (6, .i (a : Int))]⟩, nh N l s⟩ ?_
  refine W_seq ?_
  refine W_gh ?_
  refine W_reg ?_
  refine O_p 3 ?_
  refine O_nil ?_
  have oL : ∀ o : List Nat, o.length < 10 → NoT 4 (nh N l s ++ [.live .norm 1 ((o.map fun x : Nat => (x : Int)).map cI_i64)]) := fun o _ => .le (by simp [nh])
  refine Gh_one (s1 := ⟨⟨100, [(5, .own 2 (N + 1) 0 (N + 1)), (6, .i (a : Int)), (11, .own 3 1 0 1)]⟩, nh N l s ++ [.live .norm 1 ((([a] : List Nat).map fun x : Nat => (x : Int)).map cI_i64)]⟩) (by kernel_rfl) ?_
  refine Gh_noT (oL [a] (by simp)) ?_
  refine Gh_nil ?_
  refine W_seq ?_
  refine W_seq ?_
  refine W_gh ?_
  refine W_reg ?_
  refine O_q 2 ?_
  refine O_owld (i := a) (id := 2) (es := (rowL (N + 1) fun v => (s.fr v : Int)).map cI_i64) (fl := .norm) rfl fo_len (fo_get hlt) ?_
  refine O_q 1 ?_
  refine O_nil ?_
  refine Gh_e ⟨⟨100, [(5, .own 2 (N + 1) 0 (N + 1)), (6, .i (a : Int)), (11, .own 3 1 0 1), (12, .i (s.fr a : Int))]⟩, nh N l s ++ [.live .norm 1 ((([a] : List Nat).map fun x : Nat => (x : Int)).map cI_i64)]⟩ ?_
  refine W_gh (W_block ?_)
  refine W_lp (fun s' => ∃ (o : List Nat) (e : Nat), s' = ⟨⟨100, [(5, .own 2 (N + 1) 0 (N + 1)), (6, .i (a : Int)), (11, .own 3 o.length 0 o.length), (12, .i ((itn s.fr a e : Nat) : Int))]⟩, nh N l s ++ [.live .norm 1 ((o.map fun x : Nat => (x : Int)).map cI_i64)]⟩ ∧ 0 < e ∧ e ≤ k ∧ o.length = e ∧ o ++ chase s.fr a (N + 1 + 1 - e) (itn s.fr a e) = a :: chase s.fr a (N + 1) (s.fr a))
    (fun s' => match s'.tmps.get 11 with | .own _ m _ _ => N + 1 - m | _ => 0) ⟨[a], 1, rfl, by omega, by omega, rfl, rfl⟩ ?_
  rintro s' ⟨o, e, rfl, e0, e1, e2, e3⟩
  refine W_gh ?_
  refine W_seq ?_
  refine W_seq ?_
  refine W_gh ?_
  refine W_reg ?_
  refine O_q 3 ?_
  refine O_nil ?_
  refine Gh_e ⟨⟨100, [(5, .own 2 (N + 1) 0 (N + 1)), (6, .i (a : Int)), (11, .own 3 o.length 0 o.length), (12, .i ((itn s.fr a e : Nat) : Int)), (88, .bool (((itn s.fr a e : Nat) : Int) != (a : Int)))]⟩, nh N l s ++ [.live .norm 1 ((o.map fun x : Nat => (x : Int)).map cI_i64)]⟩ ?_
  refine W_gh ?_
  refine W_cond (c := (((itn s.fr a e : Nat) : Int) != (a : Int))) (by kernel_rfl) (fun c => ?_) (fun c => ?_)
  · have c5 : itn s.fr a e ≠ a := by intro h; rw [h] at c; simp at c
    have c6 : e < k := by
      rcases Nat.lt_or_ge e k with h | h
      · exact h
      · exact (c5 (by rw [show e = k by omega]; exact hbk)).elim
    refine W_skip ?_
    refine Gh_e ⟨⟨100, [(5, .own 2 (N + 1) 0 (N + 1)), (6, .i (a : Int)), (11, .own 3 o.length 0 o.length), (12, .i ((itn s.fr a e : Nat) : Int))]⟩, nh N l s ++ [.live .norm 1 ((o.map fun x : Nat => (x : Int)).map cI_i64)]⟩ ?_
    refine W_seq ?_
    refine W_gh ?_
    refine W_block ?_
    refine W_gh ?_
    refine W_reg ?_
    refine O_p 3 ?_
    have hap : (appc 8 (o.map fun x : Nat => (x : Int)) [((itn s.fr a e : Nat) : Int)]).bind some = some ((o ++ [itn s.fr a e]).map fun x : Nat => (x : Int)) := by
      unfold appc
      rw [if_pos (by simp; omega)]
      simp
    refine O_app (id := 3) (n := o.length) (l := o.map fun x : Nat => (x : Int)) (m := [((itn s.fr a e : Nat) : Int)]) okI_i64 hap (by simp) (by kernel_rfl) (by kernel_rfl) (nl := .norm) (by rfl) (by rfl) rfl (fun v e4 _ => ?_)
    subst e4
    refine O_p 1 ?_
    refine O_nil ?_
    refine Gh_one (s1 := ⟨⟨100, [(5, .own 2 (N + 1) 0 (N + 1)), (6, .i (a : Int)), (11, .own 3 ((o.map fun x : Nat => (x : Int)) ++ [((itn s.fr a e : Nat) : Int)]).length 0 ((o.map fun x : Nat => (x : Int)) ++ [((itn s.fr a e : Nat) : Int)]).length), (12, .i ((itn s.fr a e : Nat) : Int))]⟩, nh N l s ++ [.live .norm 1 (((o.map fun x : Nat => (x : Int)) ++ [((itn s.fr a e : Nat) : Int)]).map cI_i64), .live .norm 1 [[.i ((itn s.fr a e : Nat) : Int)]]]⟩) (by kernel_rfl) ?_
    have el : (o.map fun x : Nat => (x : Int)) ++ [((itn s.fr a e : Nat) : Int)] = (o ++ [itn s.fr a e]).map fun x : Nat => (x : Int) := by simp
    have el2 : ((o ++ [itn s.fr a e]).map fun x : Nat => (x : Int)).length = (o ++ [itn s.fr a e]).length := by simp
    rw [el, el2]
    refine Gh_trunc (H1 := nh N l s ++ [.live .norm 1 (((o ++ [itn s.fr a e]).map fun x : Nat => (x : Int)).map cI_i64)]) (s1 := ⟨⟨100, [(5, .own 2 (N + 1) 0 (N + 1)), (6, .i (a : Int)), (11, .own 3 (o ++ [itn s.fr a e]).length 0 (o ++ [itn s.fr a e]).length), (12, .i ((itn s.fr a e : Nat) : Int))]⟩, nh N l s ++ [.live .norm 1 (((o ++ [itn s.fr a e]).map fun x : Nat => (x : Int)).map cI_i64)]⟩) (by rfl) (by kernel_rfl) (by rfl) ?_ rfl ?_
    · refine ob_boxn (bels_mono (Nat.zero_le _) _ ?_) (ob_list okI_i64.bel (ob_list okI_i64.bel (ob_list okI_i64.bel rfl)))
      exact bels_cons rfl (bels_cons (ro_bel (okL okI_i64).bel _) rfl)
    refine Gh_nil ?_
    refine Gh_noT (.le (by simp [nh])) ?_
    refine Gh_nil ?_
    refine W_gh ?_
    refine W_reg ?_
    refine O_q 2 ?_
    refine O_owld (i := itn s.fr a e) (id := 2) (es := (rowL (N + 1) fun v => (s.fr v : Int)).map cI_i64) (fl := .norm) rfl fo_len (fo_get (hltA e)) ?_
    refine O_q 1 ?_
    refine O_nil ?_
    refine Gh_e ⟨⟨100, [(5, .own 2 (N + 1) 0 (N + 1)), (6, .i (a : Int)), (11, .own 3 (o ++ [itn s.fr a e]).length 0 (o ++ [itn s.fr a e]).length), (12, .i ((itn s.fr a (e + 1) : Nat) : Int))]⟩, nh N l s ++ [.live .norm 1 (((o ++ [itn s.fr a e]).map fun x : Nat => (x : Int)).map cI_i64)]⟩ ?_
    refine Gh_one (s1 := ⟨⟨100, [(5, .own 2 (N + 1) 0 (N + 1)), (6, .i (a : Int)), (11, .own 3 (o ++ [itn s.fr a e]).length 0 (o ++ [itn s.fr a e]).length), (12, .i ((itn s.fr a (e + 1) : Nat) : Int))]⟩, nh N l s ++ [.live .norm 1 (((o ++ [itn s.fr a e]).map fun x : Nat => (x : Int)).map cI_i64)]⟩) (by kernel_rfl) ?_
    refine Gh_noT (.le (by simp [nh])) ?_
    refine Gh_nil ?_
    refine ⟨⟨o ++ [itn s.fr a e], e + 1, rfl, by omega, by omega, by simp [e2], ?_⟩, ?_⟩
    · rw [← e3, show N + 1 + 1 - e = (N + 1 + 1 - (e + 1)) + 1 by omega, chase, if_neg c5, List.append_assoc]; rfl
    · show N + 1 - (o ++ [itn s.fr a e]).length < N + 1 - o.length
      rw [List.length_append, List.length_singleton]; omega
  have c5 : itn s.fr a e = a := by
    have : ((itn s.fr a e : Nat) : Int) = (a : Int) := by simpa using c
    exact_mod_cast this
  have e4 : o = a :: chase s.fr a (N + 1) (s.fr a) := by
    rw [← e3, show N + 1 + 1 - e = (N + 1 + 1 - (e + 1)) + 1 by omega, chase, if_pos c5, List.append_nil]
  refine W_exit ?_
  refine X_hit ?_
  refine Gh_one (s1 := ⟨⟨100, [(11, .own 3 o.length 0 o.length)]⟩, nh N l s ++ [.live .norm 1 ((o.map fun x : Nat => (x : Int)).map cI_i64)]⟩) (by kernel_rfl) ?_
  refine Gh_noT (.le (by simp [nh])) ?_
  refine Gh_nil ?_
  have hofo : Obj.live .norm 1 ((o.map fun x : Nat => (x : Int)).map cI_i64) = fo o.length (fun t => ((o.getD t 0 : Nat) : Int)) := by
    unfold fo rowL
    congr 2
    refine List.ext_getElem (by simp) (fun t h1 h2 => ?_)
    simp only [List.length_map] at h1
    simp [h1]
  refine W_seq ?_
  refine W_gh ?_
  refine W_reg ?_
  refine O_q 1 ?_
  refine O_wc (xs := [.own 3 o.length 0 o.length]) (by kernel_rfl) (by kernel_rfl) ?_
  refine rev_eq (f := fun t => ((o.getD t 0 : Nat) : Int)) (by omega) (by omega) (by rw [← hofo]; rfl) ?_
  refine O_nil ?_
  have hrev : fo o.length (fun t => ((o.getD (o.length - 1 - t) 0 : Nat) : Int)) = .live .norm 1 ((o.reverse.map fun x : Nat => (x : Int)).map cI_i64) := by
    unfold fo rowL
    congr 2
    refine List.ext_getElem (by simp) (fun t h1 h2 => ?_)
    simp at h1
    simp [h1, List.getElem_reverse, show o.length - 1 - t < o.length by omega]
  rw [hrev]
  refine Gh_e ⟨⟨100, [(11, .own 3 o.length 0 o.length)]⟩, nh N l s ++ [.live .norm 1 ((o.reverse.map fun x : Nat => (x : Int)).map cI_i64)]⟩ ?_
  refine W_seq ?_
  refine W_gh ?_
  refine W_reg ?_
  refine O_q 2 ?_
  refine O_nil ?_
  refine Gh_e ⟨⟨100, [(2, .own 3 o.length 0 o.length)]⟩, nh N l s ++ [.live .norm 1 ((o.reverse.map fun x : Nat => (x : Int)).map cI_i64)]⟩ ?_
  refine W_ret ?_
  refine Fin_pk (l := [.own 3 o.length 0 o.length]) (by kernel_rfl) ?_
  rw [← hres]
  dsimp only
  rw [hcy, ← e4]
  exact pk_own (l := o.reverse.map fun x : Nat => (x : Int)) okI_i64.bel rfl (by simp)
end G11

namespace G11
open Go hiding Obj mark
open Go.Pl Go.Am Go.Am.As
set_option linter.unusedVariables false

variable {N : Nat} {l : List (List Int)} (h : Rt N l)
include h
/-- a call apart -/
theorem closed_eq {H : List Obj} {K : AV → List Obj → Prop}
    (h1 : ∀ c0 cs H', solve l = .inl (c0 :: cs) → Fr H.length H H' → K (.tup [.nilp, .ro ((c0 :: cs).map cI_i64)]) H')
    (h2 : ∀ q H' m d, solve l = .inr d → (∀ i j, i < N + 1 → j < N + 1 → m i j = ent d i j) → H.length ≤ q → H'[q]? = some (sqo (N + 1) m) → Fr H.length H H' → K (.tup [.po q 0, .nils]) H') :
    WC E0 hp false 47 [.agg [.i (N : Int), .ro (l.map (cL cI_i64))]] H K := by
  have hneg := neg_pt h.hN h.sq (fun i hi => h.w0 hi) (fun i j _ _ => h.es) (fun i j x => h.ws)
  have hso := h.solve_eq
  refine W_call fn47 (.inl rfl) rfl (by decide) ?_
  refine W_seq ?_
  refine W_gh ?_
  refine W_reg ?_
  refine O_box (cs := [.i (N : Int), .ro (l.map (cL cI_i64))]) (sz := 2) H.length (H ++ [bb N l]) (by kernel_rfl) rfl ?_ (by simp) rfl
  refine O_q 2 ?_
  refine O_nil ?_
  refine Gh_e ⟨⟨16, [(1, .po H.length 0)]⟩, H ++ [bb N l]⟩ ?_
  have g0 : (H ++ [bb N l])[H.length]? = some (.lv 2 [.i (N : Int), .ro (l.map (cL cI_i64))]) := get_last
  have g1 : Fr H.length H (H ++ [bb N l]) := Fr.app
  have g2 : (H ++ [bb N l]).length = H.length + 1 := by simp
  generalize H ++ [bb N l] = H1 at g0 g1 g2 ⊢
  have hbel : AV.bels 0 [.agg [.i (N : Int), .ro (l.map (cL cI_i64))]] = true := bels_cons (bels_cons rfl (bels_cons (ro_bel (okL okI_i64).bel _) rfl)) rfl
  refine W_seq ?_
  refine W_seq ?_
  refine W_gh ?_
  refine W_reg ?_
  refine O_lda g0 (by kernel_rfl) rfl ?_
  refine (WO_call (f := 85)).2 ?_
  refine WC_free (.inr rfl) hbel hneg ?_
  refine O_q 1 ?_
  refine O_nil ?_
  cases hr : rounds (N + 1) (wt l) (N + 1) bf0 with
  | some s =>
    rw [hr] at hso
    obtain ⟨c0, cs, hcs⟩ : ∃ c0 cs, (cycL (N + 1) s).map (fun x : Nat => (x : Int)) = c0 :: cs := by
      cases e : (cycL (N + 1) s).map (fun x : Nat => (x : Int)) with
      | nil =>
        have := congrArg List.length e
        simp [cycL] at this
      | cons c0 cs => exact ⟨c0, cs, rfl⟩
    dsimp only at hso ⊢
    rw [hcs] at hso ⊢
    refine Gh_e ⟨⟨16, [(1, .po H.length 0), (4, .ro ((c0 :: cs).map cI_i64))]⟩, H1⟩ ?_
    refine W_seq ?_
    refine W_gh ?_
    refine W_reg ?_
    refine O_q 2 ?_
    refine O_nil ?_
    refine Gh_e ⟨⟨16, [(1, .po H.length 0), (4, .ro ((c0 :: cs).map cI_i64)), (9, .bool true)]⟩, H1⟩ ?_
    refine W_gh ?_
    refine W_cond (c := true) (by kernel_rfl) (fun _ => ?_) (fun c => by simp at c)
    refine W_seq ?_
    refine W_gh ?_
    refine W_reg ?_
    refine O_q 3 ?_
    refine O_nil ?_
    refine Gh_e ⟨⟨16, [(1, .po H.length 0), (2, .nilp), (3, .ro ((c0 :: cs).map cI_i64)), (9, .bool true)]⟩, H1⟩ ?_
    refine W_ret ?_
    exact ⟨[.nilp, .ro ((c0 :: cs).map cI_i64)], by kernel_rfl, h1 c0 cs H1 hso g1⟩
  | none =>
    rw [hr] at hso
    dsimp only at hso ⊢
    have hnn : NonNeg (N + 1) (wt l) := neg_none (fun i hi => h.w0 hi) hr
    refine Gh_e ⟨⟨16, [(1, .po H.length 0), (4, .nils)]⟩, H1⟩ ?_
    refine W_seq ?_
    refine W_gh ?_
    refine W_reg ?_
    refine O_q 2 ?_
    refine O_nil ?_
    refine Gh_e ⟨⟨16, [(1, .po H.length 0), (4, .nils), (9, .bool false)]⟩, H1⟩ ?_
    refine W_gh ?_
    refine W_cond (c := false) (by kernel_rfl) (fun c => by simp at c) (fun _ => ?_)
    refine W_skip ?_
    refine Gh_e ⟨⟨16, [(1, .po H.length 0)]⟩, H1⟩ ?_
    refine W_seq ?_
    refine W_gh ?_
    refine W_reg ?_
    refine O_lda g0 (by kernel_rfl) rfl ?_
    refine (WO_call (f := 70)).2 ?_
    refine of_eq (by have := h.hN; omega) h.sq (fun q H2 m f1 f2 f3 f4 => ?_)
    replace f1 : H1.length ≤ q := f1
    replace f4 : Fr H1.length H1 H2 := f4
    refine O_q 1 ?_
    refine O_nil ?_
    refine Gh_e ⟨⟨16, [(5, .po q 0)]⟩, H2⟩ ?_
    refine W_seq ?_
    refine W_gh ?_
    refine W_reg ?_
    refine O_q 1 ?_
    refine O_wc (xs := [.po q 0]) (by kernel_rfl) (by kernel_rfl) ?_
    refine close_eq (w := wt l) h.hN f2 (fun i j hi hj => by rw [f3 i j hi hj]; exact (ofO_toO _).symm) hnn (fun i hi => h.w0 hi) (fun i j x => h.ws) (fun H3 m3 f5 f6 f7 => ?_)
    replace f7 : ∀ a, a < H2.length → a ≠ q → H3[a]? = H2[a]? := f7
    refine O_nil ?_
    refine Gh_e ⟨⟨16, [(5, .po q 0)]⟩, H3⟩ ?_
    refine W_seq ?_
    refine W_gh ?_
    refine W_reg ?_
    refine O_q 3 ?_
    refine O_nil ?_
    refine Gh_e ⟨⟨16, [(2, .po q 0), (3, .nils)]⟩, H3⟩ ?_
    refine W_ret ?_
    refine ⟨[.po q 0, .nils], by kernel_rfl, h2 q H3 m3 _ hso (fun i j hi hj => ?_) (by omega) f5 ?_⟩
    · rw [f6 i j hi hj]
      simp [matO, matL, rowL, ent, List.getD_eq_getElem?_getD, hi, hj]
    · intro a ha
      rw [f7 a (by have := get_lt f2; omega) (by omega), f4 a (by omega), g1 a ha]
end G11

namespace G11
open Go hiding Obj mark
open Go.Pl Go.Am Go.Am.As
set_option linter.unusedVariables false

theorem cSB (a : SBounds) : cSBounds a = [.i a.N, .ro (a.Most.map (cL cI_i64))] := rfl

end G11

namespace G11
open Go hiding Obj mark
open Go.Pl Go.Am Go.Am.As
set_option linter.unusedVariables false

section
variable {E : Env} {hpx : Nat → Bool} {dr : Bool} {os : List ROp} {t : T} {H : List Obj} {K : T → List Obj → Prop} {g : Option (Nat × Bool)} {d : Option Nat}
end

end G11

namespace G11
open Go hiding Obj mark
open Go.Pl Go.Am Go.Am.As
set_option linter.unusedVariables false

section
variable {b0 k : Nat} {os : List (Nat × ROp)} {t : T} {H : List Obj} {K : T → List Obj → List FP → Prop} {d : Nat}

theorem WD_q (n : Nat) (fl : List FP) (hk : WD E0 hp b0 (os.drop n) (runDs E0.glob b0 n os t H).1 H (fun t' H' fs => K t' H' (fl ++ fs))) (h : okD E0.glob b0 n os t H = true := by kernel_rfl) (e : (runDs E0.glob b0 n os t H).2.1 = H := by kernel_rfl) (ef : (runDs E0.glob b0 n os t H).2.2 = fl := by kernel_rfl) : WD E0 hp b0 os t H K := by
  refine WD_ps n h ?_
  rw [e, ef]; exact hk
theorem WD_ld {id ext e o sz : Nat} {fl : Fl} {es : List (List AV)} {cs : List AV} {v : AV} {x : RX} (hH : H[id]? = some (.live fl sz es)) (hl : ext = es.length) (he : es[e]? = some cs) (hc : cs[o]? = some v)
    (hk : WD E0 hp b0 os (t.put d v) H (fun t' H' fs => K t' H' ({ r := [id] } :: fs))) (hx : evT E0.glob t x = .pown id ext e o := by kernel_rfl) : WD E0 hp b0 ((k, ⟨some d, none, .load 1 false x⟩) :: os) t H K := by
  refine WD_op rfl (fp := { r := [id] }) (by simp [fpOfe, hx, refs]) ?_
  exact O_ldc hx hH hl he hc (O_nil hk) rfl
theorem WD_ldb {id o sz : Nat} {cs : List AV} {v : AV} {x : RX} (hH : H[id]? = some (.lv sz cs)) (hc : cs[o]? = some v) (hk : WD E0 hp b0 os (t.put d v) H (fun t' H' fs => K t' H' ({ r := [id] } :: fs))) (hx : evT E0.glob t x = .po id o := by kernel_rfl) :
    WD E0 hp b0 ((k, ⟨some d, none, .load 1 false x⟩) :: os) t H K := WD_ld (es := [cs]) hH rfl rfl hc hk hx
theorem WD_ia {id n i sz : Nat} {fl : Fl} {es : List (List AV)} {x ix : RX} (hH : H[id]? = some (.live fl sz es)) (hl : es.length = n) (hi : i < n) (hk : WD E0 hp b0 os (t.put d (.pown id n i 0)) H (fun t' H' fs => K t' H' ({ r := [id] } :: fs)))
    (hx : evT E0.glob t x = .own id n 0 n := by kernel_rfl) (hix : evT E0.glob t ix = .i (i : Int) := by kernel_rfl) : WD E0 hp b0 ((k, ⟨some d, none, .iadS sz x ix⟩) :: os) t H K := by
  refine WD_op rfl (fp := { r := [id] }) (by simp [fpOfe, hx, refs]) ?_
  refine WO_step (v := .pown id n i 0) (H1 := H) (by simp [RO.kind]) rfl ?_ (O_nil hk)
  simp only [ev1, evalOpe, RO.kind, evalRe, hx, hix, iadS, getLive, hH, hl]
  rw [if_pos ⟨trivial, trivial, by omega, by omega⟩]
  simp
theorem WD_iaA {id o len sz i : Nat} {x ix : RX} (hi : i < len) (hk : WD E0 hp b0 os (t.put d (.po id (o + i * sz))) H (fun t' H' fs => K t' H' ({} :: fs))) (hx : evT E0.glob t x = .po id o := by kernel_rfl) (hix : evT E0.glob t ix = .i (i : Int) := by kernel_rfl) :
    WD E0 hp b0 ((k, ⟨some d, none, .iadA len sz x ix⟩) :: os) t H K := by
  refine WD_op rfl (fp := {}) rfl ?_
  exact O_ia hx hix hi (O_nil hk) rfl
theorem WD_bsl1 {v z : AV} {x : RX} (hr : H[b0 + k]? = some .rsv) (hk : WD E0 hp b0 os (t.put d (.own (b0 + k) 1 0 1)) (H.set (b0 + k) (.live .norm 1 [[v]])) (fun t' H' fs => K t' H' ({ w := [b0 + k] } :: fs)))
    (hx : evT E0.glob t x = v := by kernel_rfl) (h1 : v.cells = [v] := by rfl) (h2 : v.one = true := by rfl) (hz : z.one = true := by rfl) : WD E0 hp b0 ((k, ⟨some d, none, .bsl 1 [z] 1 [(0, x)]⟩) :: os) t H K := by
  have hl := get_lt hr
  refine WD_act (v := .own (b0 + k) 1 0 1) (H1 := H.set (b0 + k) (.live .norm 1 [[v]])) (f := { w := [b0 + k] }) ?_ hk
  have e1 : wantT t (none : Option (Nat × Bool)) = some true := rfl
  have e2 : plOk H (b0 + k) (.bsl 1 [z] 1 [(0, x)]) = true := by simp [plOk, hr]
  have e3 : evalOpe (evT E0.glob t) (fun _ => false) (fun _ _ => none) (fun _ _ _ => none) (b0 + k) (.bsl 1 [z] 1 [(0, x)]) H = some (.own (b0 + k) 1 0 1, H.set (b0 + k) (.live .norm 1 [[v]])) := by
    simp only [evalOpe, RO.kind, evalWe, hx, List.map_cons, List.map_nil]
    rw [if_pos ⟨rfl, by simp [allOne, hz], by decide⟩]
    simp [fillS, h1, allOne, h2, putObj, hl]
  simp only [actDT, evalDe, e1, e2, if_true, e3]
  rfl
/-- behind nil: a new row -/
theorem WD_appN {tid bytes : Nat} {fl2 : Fl} {v : AV} {x y : RX} (hr : H[b0 + k]? = some .rsv) (hT : H[tid]? = some (.live fl2 1 [[v]])) (h2 : v.one = true) (hb : bytes ≤ 2 ^ 40)
    (hk : WD E0 hp b0 os (t.put d (.own (b0 + k) 1 0 1)) (H.set (b0 + k) (.live .norm 1 [[v]])) (fun t' H' fs => K t' H' ({ r := [tid], w := [b0 + k] } :: fs)))
    (hx : evT E0.glob t x = .nils := by kernel_rfl) (hy : evT E0.glob t y = .own tid 1 0 1 := by kernel_rfl) : WD E0 hp b0 ((k, ⟨some d, none, .app 1 bytes x y⟩) :: os) t H K := by
  have hl := get_lt hr
  refine WD_act (v := .own (b0 + k) 1 0 1) (H1 := H.set (b0 + k) (.live .norm 1 [[v]])) (f := { r := [tid], w := [b0 + k] }) ?_ hk
  have e1 : wantT t (none : Option (Nat × Bool)) = some true := rfl
  have e2 : plOk H (b0 + k) (.app 1 bytes x y) = true := by simp [plOk, hr]
  have hall : ([[v]].all fun e => e.length == 1 && allOne e) = true := by simp [allOne, h2]
  have e3 : evalOpe (evT E0.glob t) (fun _ => false) (fun _ _ => none) (fun _ _ _ => none) (b0 + k) (.app 1 bytes x y) H = some (.own (b0 + k) 1 0 1, H.set (b0 + k) (.live .norm 1 [[v]])) := by
    simp only [evalOpe, RO.kind, evalWe, hx, hy, append, elemsOf, getLive, hT, List.length_singleton, if_true, List.drop_zero, List.take_one, List.head?_cons, Option.toList_some, hall]
    rw [if_neg (by simp), if_pos ⟨by omega, by decide⟩]
    simp [putObj, hl]
  simp only [actDT, evalDe, e1, e2, if_true, e3]
  simp only [fpOfe, hx, hy, refs]
/-- in its place -/
theorem WD_app1 {id m tid bytes : Nat} {fl fl2 : Fl} {es : List (List AV)} {v : AV} {x y : RX} (hr : H[b0 + k]? = some .rsv) (hH : H[id]? = some (.live fl 1 es)) (hm : es.length = m) (hT : H[tid]? = some (.live fl2 1 [[v]])) (hg : fl.grows = true) (hb : (m + 1) * bytes ≤ 2 ^ 40) (hb2 : m + 1 ≤ 2 ^ 40) (h2 : v.one = true)
    (hk : WD E0 hp b0 os (t.put d (.own id (m + 1) 0 (m + 1))) (H.set id (.live fl 1 (es ++ [[v]]))) (fun t' H' fs => K t' H' ({ r := [tid], w := [b0 + k, id] } :: fs))) (hx : evT E0.glob t x = .own id m 0 m := by kernel_rfl) (hy : evT E0.glob t y = .own tid 1 0 1 := by kernel_rfl) :
    WD E0 hp b0 ((k, ⟨some d, none, .app 1 bytes x y⟩) :: os) t H K := by
  refine WD_act (v := .own id (m + 1) 0 (m + 1)) (H1 := H.set id (.live fl 1 (es ++ [[v]]))) (f := { r := [tid], w := [b0 + k, id] }) ?_ hk
  have e1 : wantT t (none : Option (Nat × Bool)) = some true := rfl
  have e2 : plOk H (b0 + k) (.app 1 bytes x y) = true := by simp [plOk, hr]
  have hall : ([[v]].all fun e => e.length == 1 && allOne e) = true := by simp [allOne, h2]
  have e3 : evalOpe (evT E0.glob t) (fun _ => false) (fun _ _ => none) (fun _ _ _ => none) (b0 + k) (.app 1 bytes x y) H = some (.own id (m + 1) 0 (m + 1), H.set id (.live fl 1 (es ++ [[v]]))) := by
    simp only [evalOpe, RO.kind, evalWe, hx, hy, append, elemsOf, getLive, hT, hH, List.length_singleton, if_true, List.drop_zero, List.take_one, List.head?_cons, Option.toList_some, hall, nlAt]
    rw [if_pos ⟨hm.symm, trivial, hm.symm, trivial, by rw [hm]; exact hb, by rw [hm]; exact hb2⟩, if_pos hg, hm]
  simp only [actDT, evalDe, e1, e2, if_true, e3]
  simp only [fpOfe, hx, hy, refs]
/-- a cell of an own slice is written -/
theorem WD_st {id n i : Nat} {fl : Fl} {es : List (List AV)} {v v' : AV} {x y : RX} (hH : H[id]? = some (.live fl 1 es)) (hl : es.length = n) (he : es[i]? = some [v]) (hf : fl.free = true)
    (hk : WD E0 hp b0 os t (H.set id (.live fl 1 (es.set i [v']))) (fun t' H' fs => K t' H' ({ w := [id] } :: fs))) (hx : evT E0.glob t x = .pown id n i 0 := by kernel_rfl) (hy : evT E0.glob t y = v' := by kernel_rfl) (h1 : v'.cells = [v'] := by rfl) (h2 : allOne [v'] = true := by rfl) :
    WD E0 hp b0 ((k, ⟨none, none, .store 1 x y⟩) :: os) t H K := by
  refine WD_op rfl (fp := { w := [id] }) (by simp [fpOfe, hx, refs]) ?_
  refine WO_step (v := .tup []) (H1 := H.set id (.live fl 1 (es.set i [v']))) (by simp [RO.kind]) rfl ?_ (O_nil hk)
  simp only [ev1, evalOpe, RO.kind, evalWe, hx, hy, storeAt, getLive, hH, nlAt, h1, List.length_singleton]
  rw [if_pos ⟨hl.symm, trivial, by omega, h2, hf⟩]
  simp [he, putAt]
end

theorem noT_ref {c b : Nat} {o : Obj} {H : List Obj} (hH : H[b]? = some o) (hb : b < c) (ho : o.bel c = false) : NoT c H := by
  unfold NoT
  cases h : objsBel c (H.take c) with
  | false => rw [Bool.and_false]
  | true =>
    exfalso
    have : ∀ {A : List Obj} {i : Nat} {o : Obj}, objsBel c A = true → A[i]? = some o → o.bel c = true := by
      intro A
      induction A with
      | nil => intro i o _ h; simp at h
      | cons x A ih =>
        intro i o h1 h2
        simp only [objsBel, Bool.and_eq_true] at h1
        cases i with
        | zero => simp at h2; subst h2; exact h1.1
        | succ i => exact ih h1.2 (by simpa using h2)
    rw [this h (get_take hH hb)] at ho
    cases ho
theorem belss_get {c : Nat} {es : List (List AV)} {i id e o l : Nat} (h : es[i]? = some [.own id e o l]) (hc : c ≤ id) : AV.belss c es = false := by
  induction es generalizing i with
  | nil => simp at h
  | cons x es ih =>
    cases i with
    | zero => simp at h; subst h; simp [AV.belss, AV.bels, AV.bel]; omega
    | succ i =>
      simp only [AV.belss, Bool.and_eq_false_iff]
      exact .inr (ih (by simpa using h))

theorem row_f {id bx sx b n i j : Nat} {m : Nat → Nat → Int} {H : List Obj} {K : AV → List Obj → Prop} {flb : Fl} {rows es : List (List AV)} {rv N0 : AV} (hi : i < 13) (hj : j < 13)
    (hs : H[id]? = some (sqo n m)) (hsx : H[sx]? = some (.lv 1 [.po id 0])) (hbx : H[bx]? = some (.lv 2 [N0, .own b n 0 n])) (hb : H[b]? = some (.live flb 1 rows)) (hfl : flb.free = true) (hlen : rows.length = n) (hin : i < n) (hrow : rows[i]? = some [rv]) (hne : bx ≠ b)
    (hrv : (rv = .nils ∧ es = [] ∧ j = 0) ∨ ∃ rid, rv = .own rid j 0 j ∧ H[rid]? = some (.live .norm 1 es) ∧ es.length = j ∧ rid ≠ b ∧ rid ≠ bx)
    (hk : ∀ r' H', H'[b]? = some (.live flb 1 (rows.set i [.own r' (j + 1) 0 (j + 1)])) → H'[r']? = some (.live .norm 1 (es ++ [[.i (m i j)]])) → (∀ a, a < H.length → a ≠ b → a ≠ r' → H'[a]? = H[a]?) → (rv = .own r' j 0 j ∨ rv = .nils ∧ r' = H.length + 1) → K (.tup []) H') :
    WC E0 hp false 91 [.i (i : Int), .i (j : Int), .po bx 0, .po sx 0] H K := by
  have lb := get_lt hb
  have lbx := get_lt hbx
  have lsx := get_lt hsx
  have lid := get_lt hs
  have hi' : i < rows.length := (List.getElem?_eq_some_iff.1 hrow).1
  refine W_call fn91 (.inr (snaps_none 2 rfl rfl)) rfl (by decide) ?_
  refine W_gh ?_
  refine W_drawW (L := H.length) rfl ?_
  have q1 : (H ++ [Obj.rsv, Obj.rsv])[H.length + 0]? = some .rsv := get_end 0 rfl
  have a1 : ∀ {a : Nat} {o : Obj}, H[a]? = some o → (H ++ [Obj.rsv, Obj.rsv])[a]? = some o := fun h => get_app h
  show WD E0 hp H.length _ _ (H ++ [Obj.rsv, Obj.rsv]) _
  refine WD_q 1 [{}] ?_
  refine WD_ldb (o := 1) (a1 hbx) rfl ?_
  refine WD_q 2 [{}, {}] ?_
  refine WD_ldb (o := 1) (a1 hbx) rfl ?_
  refine WD_q 1 [{}] ?_
  refine WD_ia (i := i) (a1 hb) hlen hin ?_
  refine WD_ld (e := i) (o := 0) (a1 hb) hlen.symm hrow rfl ?_
  refine WD_ldb (o := 0) (a1 hsx) rfl ?_
  refine WD_q 4 [{}, {}, {}, {}] ?_
  refine WD_iaA (id := id) (o := 1) (i := i) hi ?_
  refine WD_iaA (id := id) (o := 1 + i * 13) (i := j) hj ?_
  refine WD_ld (o := 1 + i * 13 + j * 1) (e := 0) (v := .i (m i j)) (a1 hs) rfl rfl ?_ ?_
  · rw [show 1 + i * 13 + j * 1 = (i * 13 + j) + 1 by omega, List.getElem?_cons_succ]; exact sqc_get hi hj
  refine WD_bsl1 (v := .i (m i j)) q1 ?_
  have e1 : (H ++ [Obj.rsv, Obj.rsv]).set (H.length + 0) (.live .norm 1 [[.i (m i j)]]) = H ++ [.live .norm 1 [[.i (m i j)]], .rsv] := by simp
  rw [e1]
  have q2 : (H ++ [Obj.live .norm 1 [[.i (m i j)]], .rsv])[H.length + 1]? = some .rsv := get_end 1 rfl
  have q3 : (H ++ [Obj.live .norm 1 [[.i (m i j)]], .rsv])[H.length + 0]? = some (.live .norm 1 [[.i (m i j)]]) := get_end 0 rfl
  have a2 : ∀ {a : Nat} {o : Obj}, H[a]? = some o → (H ++ [Obj.live .norm 1 [[.i (m i j)]], .rsv])[a]? = some o := fun h => get_app h
  have f2 : ∀ a, a < H.length → (H ++ [Obj.live .norm 1 [[.i (m i j)]], .rsv])[a]? = H[a]? := fun a ha => List.getElem?_append_left ha
  have l2 : (H ++ [Obj.live .norm 1 [[.i (m i j)]], .rsv]).length = H.length + 2 := by simp
  generalize H ++ [Obj.live .norm 1 [[.i (m i j)]], .rsv] = H2 at q2 q3 a2 f2 l2 ⊢
  rcases hrv with ⟨rfl, rfl, rfl⟩ | ⟨rid, rfl, hrid, hes, hr1, hr2⟩
  · refine WD_appN q2 q3 rfl (by decide) ?_
    refine WD_ia (i := i) (id := b) (get_ne (a2 hb) (by omega)) hlen hin ?_
    refine WD_st (i := i) (id := b) (v' := .own (H.length + 1) 1 0 1) (get_ne (a2 hb) (by omega)) hlen hrow hfl ?_
    refine WD_nil ⟨?_, ?_⟩
    · simp [pairsDisj, disj, noneOf]
      omega
    · refine Gh_one (s1 := ⟨⟨25, []⟩, (H2.set (H.length + 1) (.live .norm 1 [[.i (m i 0)]])).set b (.live flb 1 (rows.set i [.own (H.length + 1) 1 0 1]))⟩) (by kernel_rfl) ?_
      have g1 : ((H2.set (H.length + 1) (.live .norm 1 [[.i (m i 0)]])).set b (.live flb 1 (rows.set i [.own (H.length + 1) 1 0 1])))[b]? = some (.live flb 1 (rows.set i [.own (H.length + 1) 1 0 1])) := sq_self (get_ne (a2 hb) (by omega))
      have g2 : ((H2.set (H.length + 1) (.live .norm 1 [[.i (m i 0)]])).set b (.live flb 1 (rows.set i [.own (H.length + 1) 1 0 1])))[H.length + 1]? = some (.live .norm 1 [[.i (m i 0)]]) := get_ne (sq_self q2) (by omega)
      refine Gh_noT (noT_ref g1 lb ?_) ?_
      · exact belss_get (i := i) (by rw [List.getElem?_set_self hi']) (by omega)
      refine Gh_nil ?_
      refine ⟨[], rfl, hk (H.length + 1) _ g1 g2 (fun a ha h1 h2 => ?_) (.inr ⟨rfl, rfl⟩)⟩
      show ((H2.set (H.length + 1) _).set b _)[a]? = _
      rw [List.getElem?_set_ne (by omega), List.getElem?_set_ne (by omega), f2 a ha]
  · have lr := get_lt hrid
    refine WD_app1 (id := rid) (m := j) q2 (a2 hrid) hes q3 rfl (by omega) (by omega) rfl ?_
    refine WD_ia (i := i) (id := b) (get_ne (a2 hb) (by omega)) hlen hin ?_
    refine WD_st (i := i) (id := b) (v' := .own rid (j + 1) 0 (j + 1)) (get_ne (a2 hb) (by omega)) hlen hrow hfl ?_
    refine WD_nil ⟨?_, ?_⟩
    · simp [pairsDisj, disj, noneOf]
      omega
    · refine Gh_one (s1 := ⟨⟨25, []⟩, (H2.set rid (.live .norm 1 (es ++ [[.i (m i j)]]))).set b (.live flb 1 (rows.set i [.own rid (j + 1) 0 (j + 1)]))⟩) (by kernel_rfl) ?_
      have g1 : ((H2.set rid (.live .norm 1 (es ++ [[.i (m i j)]]))).set b (.live flb 1 (rows.set i [.own rid (j + 1) 0 (j + 1)])))[b]? = some (.live flb 1 (rows.set i [.own rid (j + 1) 0 (j + 1)])) := sq_self (get_ne (a2 hb) (by omega))
      have g2 : ((H2.set rid (.live .norm 1 (es ++ [[.i (m i j)]]))).set b (.live flb 1 (rows.set i [.own rid (j + 1) 0 (j + 1)])))[rid]? = some (.live .norm 1 (es ++ [[.i (m i j)]])) := get_ne (sq_self (a2 hrid)) hr1
      have g3 : ∀ a, a < H.length → a ≠ b → a ≠ rid → ((H2.set rid (.live .norm 1 (es ++ [[.i (m i j)]]))).set b (.live flb 1 (rows.set i [.own rid (j + 1) 0 (j + 1)])))[a]? = H[a]? := fun a ha h1 h2 => by
        rw [List.getElem?_set_ne (by omega), List.getElem?_set_ne (by omega), f2 a ha]
      generalize (H2.set rid (.live .norm 1 (es ++ [[.i (m i j)]]))).set b (.live flb 1 (rows.set i [.own rid (j + 1) 0 (j + 1)])) = H3 at g1 g2 g3 ⊢
      refine Gh_tr (fun H' => H'[b]? = some (.live flb 1 (rows.set i [.own rid (j + 1) 0 (j + 1)])) ∧ H'[rid]? = some (.live .norm 1 (es ++ [[.i (m i j)]])) ∧ ∀ a, a < H.length → a ≠ b → a ≠ rid → H'[a]? = H[a]?) ⟨g1, g2, g3⟩
        (.inr ⟨get_take g1 (by omega), get_take g2 (by omega), fun a ha h1 h2 => by rw [List.getElem?_take_of_lt (by omega)]; exact g3 a ha h1 h2⟩) (fun H4 h4 => ?_)
      refine Gh_nil ?_
      exact ⟨[], rfl, hk rid H4 h4.1 h4.2.1 h4.2.2 (.inl rfl)⟩
end G11

namespace G11
open Go hiding Obj mark
open Go.Pl Go.Am Go.Am.As
set_option linter.unusedVariables false

theorem Gh_wkp {b t id sz : Nat} {cs cs' : List AV} {gs : List GA} {s : ST} {N : ST → Prop} (hH : s.H[id]? = some (.lv sz cs)) (hx : s.tmps.get t = .po id 0) (hc : cs.map AV.wk1 = cs') (hp : s.tmps.put t (.po id 0) = s.tmps) (k : Gh b gs ⟨s.tmps, s.H.set id (.lv sz cs')⟩ N) : Gh b (.wk [t] :: gs) s N := by
  refine Gh_one ?_ k
  subst hc
  show some (wksT [t] s) = _
  simp only [wksT, hx, AV.wk, wkH, hH, Obj.wk, List.map_cons, List.map_nil, hp]

theorem res_box {t n id sz : Nat} {cs : List AV} {r : List (Sum Nat (Nat × Nat × Bool))} {l : List AV} {s : ST} (hx : s.tmps.get t = .po id 0) (hH : s.H[id]? = some (.lv sz cs)) (hn : cs.length = n) (hr : resultsT r s = some l) : resultsT (.inr (t, n, true) :: r) s = some (.agg cs :: l) := by
  simp [resultsT, hx, loadAt, getLive, hH, Am.part, hn.symm, hr]

/-- rows of numbers in own memory, from L on -/
structure NB (L : Nat) (H : List Obj) (b n : Nat) (m : Nat → Nat → Int) (rid : Nat → Nat) : Prop where
  top : H[b]? = some (.live .norm 1 ((List.range n).map fun i => [.own (rid i) n 0 n]))
  row : ∀ i, i < n → H[rid i]? = some (fo n (m i))
  lb : L ≤ b
  lr : ∀ i, i < n → L ≤ rid i
  inj : ∀ i j, i < n → j < n → rid i = rid j → i = j
  ne : ∀ i, i < n → rid i ≠ b

/-- the rows while they are filled -/
def rws (n : Nat) (rid : Nat → Nat) (i j : Nat) : List (List AV) := (List.range n).map fun a => if a < i then [.own (rid a) n 0 n] else if a = i ∧ 0 < j then [.own (rid i) j 0 j] else [.nils]
theorem rws_get {n : Nat} {rid : Nat → Nat} {i j a : Nat} (ha : a < n) : (rws n rid i j)[a]? = some (if a < i then [.own (rid a) n 0 n] else if a = i ∧ 0 < j then [.own (rid i) j 0 j] else [.nils]) := by
  simp [rws, ha]
theorem rws_len {n : Nat} {rid : Nat → Nat} {i j : Nat} : (rws n rid i j).length = n := by simp [rws]
theorem rws_step {n : Nat} {rid rid' : Nat → Nat} {i j r' : Nat} (hi : i < n) (h1 : rid' i = r') (h2 : ∀ a, a < i → rid' a = rid a) : (rws n rid i j).set i [.own r' (j + 1) 0 (j + 1)] = rws n rid' i (j + 1) := by
  refine List.ext_getElem? (fun a => ?_)
  by_cases ha : a < n
  · rw [List.getElem?_set, rws_get ha, rws_get ha]
    by_cases e : i = a
    · subst e
      rw [if_pos rfl, if_pos (by rw [rws_len]; exact hi), if_neg (by omega), if_pos ⟨rfl, by omega⟩, h1]
    · rw [if_neg e]
      by_cases h : a < i
      · rw [if_pos h, if_pos h, h2 a h]
      · rw [if_neg h, if_neg h, if_neg (by omega), if_neg (by omega)]
  · rw [List.getElem?_eq_none (by simp [rws]; omega), List.getElem?_eq_none (by simp [rws]; omega)]
theorem rws_next {n : Nat} {rid : Nat → Nat} {i : Nat} (hn : 0 < n) : rws n rid i n = rws n rid (i + 1) 0 := by
  unfold rws
  refine List.map_congr_left (fun a ha => ?_)
  by_cases h : a < i
  · rw [if_pos h, if_pos (by omega)]
  · rw [if_neg h]
    by_cases h2 : a = i
    · subst h2; rw [if_pos ⟨rfl, hn⟩, if_pos (by omega)]
    · rw [if_neg (by omega), if_neg (by omega), if_neg (by omega)]

theorem WD_mks {b0 k d n : Nat} {os : List (Nat × ROp)} {t : T} {H : List Obj} {K : T → List Obj → List FP → Prop} {x y : RX} (hr : H[b0 + k]? = some .rsv) (hn : n ≤ 1000)
    (hk : WD E0 hp b0 os (t.put d (.own (b0 + k) n 0 n)) (H.set (b0 + k) (.live .norm 1 (List.replicate n [.nils]))) (fun t' H' fs => K t' H' ({ w := [b0 + k] } :: fs))) (hx : evT E0.glob t x = .i (n : Int) := by kernel_rfl) (hy : evT E0.glob t y = .i (n : Int) := by kernel_rfl) :
    WD E0 hp b0 ((k, ⟨some d, none, .mks 1 [.nils] 24 x y⟩) :: os) t H K := by
  have hl := get_lt hr
  refine WD_act (v := .own (b0 + k) n 0 n) (H1 := H.set (b0 + k) (.live .norm 1 (List.replicate n [.nils]))) (f := { w := [b0 + k] }) ?_ hk
  have e1 : wantT t (none : Option (Nat × Bool)) = some true := rfl
  have e2 : plOk H (b0 + k) (.mks 1 [.nils] 24 x y) = true := by simp [plOk, hr]
  have e3 : evalOpe (evT E0.glob t) (fun _ => false) (fun _ _ => none) (fun _ _ _ => none) (b0 + k) (.mks 1 [.nils] 24 x y) H = some (.own (b0 + k) n 0 n, H.set (b0 + k) (.live .norm 1 (List.replicate n [.nils]))) := by
    simp only [evalOpe, RO.kind, evalWe, hx, hy]
    rw [if_pos ⟨trivial, by omega, by omega, by omega, rfl, rfl⟩]
    simp [putObj, hl]
  simp only [actDT, evalDe, e1, e2, if_true, e3]
  rfl
theorem WD_alloc {b0 k d sz : Nat} {os : List (Nat × ROp)} {t : T} {H : List Obj} {K : T → List Obj → List FP → Prop} {z : List AV} (hr : H[b0 + k]? = some .rsv) (hl2 : z.length = sz)
    (hk : WD E0 hp b0 os (t.put d (.po (b0 + k) 0)) (H.set (b0 + k) (.lv sz z)) (fun t' H' fs => K t' H' ({ w := [b0 + k] } :: fs))) (h1 : allOne z = true := by rfl) :
    WD E0 hp b0 ((k, ⟨some d, none, .alloc z⟩) :: os) t H K := by
  have hl := get_lt hr
  subst hl2
  refine WD_act (v := .po (b0 + k) 0) (H1 := H.set (b0 + k) (.lv z.length z)) (f := { w := [b0 + k] }) ?_ hk
  have e1 : wantT t (none : Option (Nat × Bool)) = some true := rfl
  have e2 : plOk H (b0 + k) (.alloc z) = true := by simp [plOk, hr]
  have e3 : evalOpe (evT E0.glob t) (fun _ => false) (fun _ _ => none) (fun _ _ _ => none) (b0 + k) (.alloc z) H = some (.po (b0 + k) 0, H.set (b0 + k) (.lv z.length z)) := by
    simp only [evalOpe, RO.kind, evalWe, h1, if_true]
    simp [putObj, hl]
  simp only [actDT, evalDe, e1, e2, if_true, e3]
  rfl
theorem WD_stb {b0 k id o n sz : Nat} {os : List (Nat × ROp)} {t : T} {H : List Obj} {K : T → List Obj → List FP → Prop} {cs : List AV} {x y : RX} (xs cs' : List AV) (hH : H[id]? = some (.lv sz cs)) (hk : WD E0 hp b0 os t (H.set id (.lv sz cs')) (fun t' H' fs => K t' H' ({ w := [id] } :: fs)))
    (hx : evT E0.glob t x = .po id o := by kernel_rfl) (hy : (evT E0.glob t y).cells = xs := by kernel_rfl) (hp' : putAt cs o xs = cs' := by kernel_rfl) (hn : xs.length = n := by rfl) (ho : o + n ≤ sz := by decide) (h1 : allOne xs = true := by kernel_rfl) :
    WD E0 hp b0 ((k, ⟨none, none, .store n x y⟩) :: os) t H K := by
  refine WD_op rfl (fp := { w := [id] }) (by simp [fpOfe, hx, refs]) ?_
  exact O_st xs cs' hH (O_nil hk) hx hy hp' hn ho h1 rfl

theorem bounds_eq {id n : Nat} {m : Nat → Nat → Int} {H : List Obj} {K : AV → List Obj → Prop} (hn : n ≤ 13) (h0 : 0 < n) (hH : H[id]? = some (sqo n m))
    (hk : ∀ b rid H', NB H.length H' b n m rid → Fr H.length H H' → K (.agg [.i ((n - 1 : Nat) : Int), .own b n 0 n]) H') : WC E0 hp false 69 [.po id 0] H K := by
  have hid := get_lt hH
  refine W_call fn69 (.inr (snaps_none 0 rfl rfl)) rfl (by decide) ?_
  refine W_seq ?_
  refine W_gh ?_
  refine W_reg ?_
  refine O_box (cs := [.po id 0]) (sz := 1) H.length (H ++ [.lv 1 [.po id 0]]) (by kernel_rfl) rfl ?_
  refine O_alloc (sz := 2) (H.length + 1) (H ++ [.lv 1 [.po id 0], .lv 2 [.i 0, .nils]]) rfl ?_
  refine O_nil ?_
  refine Gh_one (s1 := ⟨⟨19, [(1, .po H.length 0), (2, .po (H.length + 1) 0)]⟩, H ++ [.lv 1 [.po id 0], .lv 2 [.i 0, .nils]]⟩) (by kernel_rfl) ?_
  refine Gh_wkp (id := H.length + 1) (cs' := [.i 0, .ro []]) (get_end 1 rfl) rfl rfl rfl ?_
  refine Gh_nil ?_
  have e1 : (H ++ [Obj.lv 1 [.po id 0], .lv 2 [.i 0, .nils]]).set (H.length + 1) (.lv 2 [.i 0, .ro []]) = H ++ [.lv 1 [.po id 0], .lv 2 [.i 0, .ro []]] := by simp
  show W E0 hp _ _ _ _ _ ⟨_, (H ++ [Obj.lv 1 [.po id 0], .lv 2 [.i 0, .nils]]).set (H.length + 1) (.lv 2 [.i 0, .ro []])⟩
  rw [e1]
  have s0 : (H ++ [Obj.lv 1 [.po id 0], .lv 2 [.i 0, .ro []]])[H.length]? = some (.lv 1 [.po id 0]) := get_end 0 rfl
  have s1 : (H ++ [Obj.lv 1 [.po id 0], .lv 2 [.i 0, .ro []]])[H.length + 1]? = some (.lv 2 [.i 0, .ro []]) := get_end 1 rfl
  have s2 : (H ++ [Obj.lv 1 [.po id 0], .lv 2 [.i 0, .ro []]])[id]? = some (sqo n m) := get_app hH
  have s3 : (H ++ [Obj.lv 1 [.po id 0], .lv 2 [.i 0, .ro []]]).length = H.length + 2 := by simp
  have s4 : Fr H.length H (H ++ [Obj.lv 1 [.po id 0], .lv 2 [.i 0, .ro []]]) := Fr.app
  generalize H ++ [Obj.lv 1 [.po id 0], .lv 2 [.i 0, .ro []]] = H1 at s0 s1 s2 s3 s4 ⊢
  refine W_seq ?_
  refine W_gh ?_
  refine W_drawW (L := H.length + 2) s3 ?_
  show WD E0 hp (H.length + 2) _ _ (H1 ++ [Obj.rsv, Obj.rsv]) _
  have a1 : ∀ {a : Nat} {o : Obj}, H1[a]? = some o → (H1 ++ [Obj.rsv, Obj.rsv])[a]? = some o := fun h => get_app h
  refine WD_ldb (o := 0) (a1 s0) rfl ?_
  refine WD_q 2 [{}, {}] ?_
  refine WD_ld (e := 0) (o := 0) (es := [.i n :: sqc m]) (cs := .i n :: sqc m) (a1 s2) rfl rfl rfl ?_
  refine WD_q 1 [{}] ?_
  refine WD_ldb (o := 0) (a1 s0) rfl ?_
  refine WD_q 2 [{}, {}] ?_
  refine WD_ld (e := 0) (o := 0) (es := [.i n :: sqc m]) (cs := .i n :: sqc m) (a1 s2) rfl rfl rfl ?_
  have r1 : (H1 ++ [Obj.rsv, Obj.rsv])[H.length + 2 + 0]? = some .rsv := by rw [← s3]; exact get_end 0 rfl
  refine WD_mks (n := n) r1 (by omega) ?_
  refine WD_q 1 [{}] ?_
  have r2 : ((H1 ++ [Obj.rsv, Obj.rsv]).set (H.length + 2 + 0) (.live .norm 1 (List.replicate n [.nils])))[H.length + 2 + 1]? = some .rsv := get_ne (by rw [← s3]; exact get_end 1 rfl) (by omega)
  refine WD_alloc (sz := 2) r2 rfl ?_
  refine WD_stb (o := 0) (sz := 2) (cs := [.i 0, .nils]) [.i (subI .i64 (n : Int) 1), .own (H.length + 2 + 0) n 0 n] [.i (subI .i64 (n : Int) 1), .own (H.length + 2 + 0) n 0 n] (sq_self r2) ?_
  rw [set_set]
  refine WD_nil ⟨?_, ?_⟩
  · simp [pairsDisj, disj, noneOf]
    omega
  have eH : ((H1 ++ [Obj.rsv, Obj.rsv]).set (H.length + 2 + 0) (.live .norm 1 (List.replicate n [.nils]))).set (H.length + 2 + 1) (.lv 2 [.i (subI .i64 (n : Int) 1), .own (H.length + 2 + 0) n 0 n]) = H1 ++ [.live .norm 1 (List.replicate n [.nils]), .lv 2 [.i ((n - 1 : Nat) : Int), .own (H.length + 2) n 0 n]] := by
    rw [show subI .i64 (n : Int) 1 = ((n - 1 : Nat) : Int) by rw [subI_eq (by omega) (by omega)]; omega]
    have := s3
    rw [← s3]
    simp
  rw [eH]
  refine Gh_one (s1 := ⟨⟨19, [(1, .po H.length 0), (2, .po (H.length + 1) 0), (3, .po (H.length + 3) 0)]⟩, H1 ++ [.live .norm 1 (List.replicate n [.nils]), .lv 2 [.i ((n - 1 : Nat) : Int), .own (H.length + 2) n 0 n]]⟩) (by kernel_rfl) ?_
  have t0 : (H1 ++ [Obj.live .norm 1 (List.replicate n [.nils]), .lv 2 [.i ((n - 1 : Nat) : Int), .own (H.length + 2) n 0 n]])[H.length]? = some (.lv 1 [.po id 0]) := get_app s0
  have t1 : (H1 ++ [Obj.live .norm 1 (List.replicate n [.nils]), .lv 2 [.i ((n - 1 : Nat) : Int), .own (H.length + 2) n 0 n]])[H.length + 1]? = some (.lv 2 [.i 0, .ro []]) := get_app s1
  have t2 : (H1 ++ [Obj.live .norm 1 (List.replicate n [.nils]), .lv 2 [.i ((n - 1 : Nat) : Int), .own (H.length + 2) n 0 n]])[id]? = some (sqo n m) := get_app s2
  have t3 : (H1 ++ [Obj.live .norm 1 (List.replicate n [.nils]), .lv 2 [.i ((n - 1 : Nat) : Int), .own (H.length + 2) n 0 n]])[H.length + 3]? = some (.lv 2 [.i ((n - 1 : Nat) : Int), .own (H.length + 2) n 0 n]) := by rw [show H.length + 3 = H1.length + 1 by omega]; exact get_end 1 rfl
  have t4 : (H1 ++ [Obj.live .norm 1 (List.replicate n [.nils]), .lv 2 [.i ((n - 1 : Nat) : Int), .own (H.length + 2) n 0 n]])[H.length + 2]? = some (.live .norm 1 (rws n (fun _ => 0) 0 0)) := by
    have : List.replicate n [AV.nils] = rws n (fun _ => 0) 0 0 := by
      refine List.ext_getElem? (fun a => ?_)
      by_cases ha : a < n
      · rw [rws_get ha]; simp [ha]
      · rw [List.getElem?_eq_none (by simp; omega), List.getElem?_eq_none (by simp [rws]; omega)]
    rw [← this, show H.length + 2 = H1.length + 0 by omega]; exact get_end 0 rfl
  have t5 : Fr H.length H (H1 ++ [Obj.live .norm 1 (List.replicate n [.nils]), .lv 2 [.i ((n - 1 : Nat) : Int), .own (H.length + 2) n 0 n]]) := s4.trans Fr.app (by omega)
  have t6 : (H1 ++ [Obj.live .norm 1 (List.replicate n [.nils]), .lv 2 [.i ((n - 1 : Nat) : Int), .own (H.length + 2) n 0 n]]).length = H.length + 4 := by simp [s3]
  generalize H1 ++ [Obj.live .norm 1 (List.replicate n [.nils]), .lv 2 [.i ((n - 1 : Nat) : Int), .own (H.length + 2) n 0 n]] = H2 at t0 t1 t2 t3 t4 t5 t6 ⊢
  refine Gh_wkp (id := H.length + 3) (cs' := [.i ((n - 1 : Nat) : Int), .own (H.length + 2) n 0 n]) t3 rfl rfl rfl ?_
  refine Gh_nil ?_
  have e2 : H2.set (H.length + 3) (.lv 2 [.i ((n - 1 : Nat) : Int), .own (H.length + 2) n 0 n]) = H2 := by
    obtain ⟨hl, he⟩ := List.getElem?_eq_some_iff.1 t3
    rw [← he]; simp
  show W E0 hp _ _ _ _ _ ⟨_, H2.set (H.length + 3) (.lv 2 [.i ((n - 1 : Nat) : Int), .own (H.length + 2) n 0 n])⟩
  rw [e2]
  refine W_seq ?_
  refine W_gh ?_
  refine W_reg ?_
  refine O_ldb (o := 0) t0 (by kernel_rfl) rfl ?_
  refine O_q 1 ?_
  refine O_wc (xs := [.po id 0, .fn 91 [.po (H.length + 3) 0, .po H.length 0]]) (by kernel_rfl) (by kernel_rfl) ?_
  refine each_eq (n := n) (fun i j H' => H'[H.length]? = some (.lv 1 [.po id 0]) ∧ H'[H.length + 1]? = some (.lv 2 [.i 0, .ro []]) ∧ H'[id]? = some (sqo n m) ∧ H'[H.length + 3]? = some (.lv 2 [.i ((n - 1 : Nat) : Int), .own (H.length + 2) n 0 n]) ∧ Fr H.length H H' ∧
      ∃ rid : Nat → Nat, H'[H.length + 2]? = some (.live .norm 1 (rws n rid i j)) ∧ (∀ a, a < n → (a < i → H'[rid a]? = some (fo n (m a)) ∧ H.length + 4 ≤ rid a) ∧ (a = i → 0 < j → H'[rid a]? = some (fo j (m a)) ∧ H.length + 4 ≤ rid a)) ∧ ∀ a c, a < n → c < n → (a < i ∨ a = i ∧ 0 < j) → (c < i ∨ c = i ∧ 0 < j) → rid a = rid c → a = c)
    hn (fun i j H' h => ⟨m, h.2.2.1⟩) (fun i j H' h => ?_) ⟨t0, t1, t2, t3, t5, fun _ => 0, t4, fun a ha => ⟨fun h => by omega, fun _ h => by omega⟩, fun a c _ _ h => by omega⟩ ?_ ?_ ?_
  · obtain ⟨h1, h2, h3, h4, h5, rid, h6, h7, h8⟩ := h
    rw [t6]
    by_cases hij : i = 0 ∧ j = 0
    · right
      obtain ⟨rfl, rfl⟩ := hij
      exact ⟨get_take h1 (by omega), get_take h2 (by omega), get_take h3 (by omega), get_take h4 (by omega), h5.take (by omega), rid, get_take h6 (by omega), fun a ha => ⟨fun h => by omega, fun _ h => by omega⟩, fun a c _ _ h => by omega⟩
    · left
      refine noT_ref h6 (by omega) ?_
      by_cases hi0 : i = 0
      · subst hi0
        exact belss_get (i := 0) (by rw [rws_get h0, if_neg (by omega), if_pos ⟨rfl, by omega⟩]) ((h7 0 h0).2 rfl (by omega)).2
      · exact belss_get (i := 0) (by rw [rws_get h0, if_pos (by omega)]) ((h7 0 h0).1 (by omega)).2
  · rintro i j H3 K' hi hj ⟨h1, h2, h3, h4, h5, rid, h6, h7, h8⟩ hk'
    have hrv : (rws n rid i j)[i]? = some [if 0 < j then .own (rid i) j 0 j else .nils] := by
      rw [rws_get hi, if_neg (by omega)]
      by_cases h : 0 < j
      · rw [if_pos ⟨rfl, h⟩, if_pos h]
      · rw [if_neg (fun g => h g.2), if_neg h]
    refine row_f (n := n) (b := H.length + 2) (es := ((rowL j (m i)).map cI_i64)) (by omega) (by omega) h3 h1 h4 h6 rfl rws_len hi hrv (by omega) ?_ (fun r' H4 g1 g2 g3 g4 => hk' H4 ?_)
    · by_cases h : 0 < j
      · right
        obtain ⟨x1, x2⟩ := (h7 i hi).2 rfl h
        exact ⟨rid i, by rw [if_pos h], x1, by simp [rowL], by omega, by omega⟩
      · left
        obtain rfl : j = 0 := by omega
        exact ⟨by rw [if_neg h], rfl, rfl⟩
    have hlen3 : H.length + 4 ≤ H3.length := by have := get_lt h4; omega
    have hr' : H.length + 4 ≤ r' ∧ (∀ a, a < i → rid a ≠ r') := by
      by_cases h : 0 < j
      · rw [if_pos h] at g4
        rcases g4 with g4 | ⟨g4, _⟩
        · injection g4 with g4
          subst g4
          exact ⟨((h7 i hi).2 rfl h).2, fun a ha e => by have := h8 a i (by omega) hi (.inl ha) (.inr ⟨rfl, h⟩) e; omega⟩
        · cases g4
      · rw [if_neg h] at g4
        rcases g4 with g4 | ⟨_, g4⟩
        · cases g4
        · exact ⟨by omega, fun a ha e => by have := get_lt ((h7 a (by omega)).1 ha).1; omega⟩
    have hes : ((rowL j (m i)).map cI_i64) ++ [[.i (m i j)]] = (rowL (j + 1) (m i)).map cI_i64 := by
      unfold rowL; rw [List.range_succ, List.map_append, List.map_append]; rfl
    rw [hes] at g2
    refine ⟨(g3 _ (by omega) (by omega) (by omega)).trans h1, (g3 _ (by omega) (by omega) (by omega)).trans h2, (g3 _ (by omega) (by omega) (by omega)).trans h3, (g3 _ (by omega) (by omega) (by omega)).trans h4,
      fun a ha => (g3 a (by omega) (by omega) (by omega)).trans (h5 a ha), upd rid i r', ?_, ?_, ?_⟩
    · rw [g1, rws_step hi upd_eq (fun a ha => upd_ne (by omega))]
    · intro a ha
      refine ⟨fun h => ?_, fun h hj0 => ?_⟩
      · obtain ⟨x1, x2⟩ := (h7 a ha).1 h
        rw [upd_ne (by omega)]
        exact ⟨(g3 _ (get_lt x1) (by omega) (hr'.2 a h)).trans x1, x2⟩
      · subst h
        rw [upd_eq]
        exact ⟨g2, hr'.1⟩
    · intro a c ha hc h1' h2' e
      by_cases ea : a = i
      · by_cases ec : c = i
        · omega
        · rw [ea, upd_eq, upd_ne ec] at e
          exact ((hr'.2 c (by omega)) e.symm).elim
      · by_cases ec : c = i
        · rw [ec, upd_eq, upd_ne ea] at e
          exact ((hr'.2 a (by omega)) e).elim
        · rw [upd_ne ea, upd_ne ec] at e
          exact h8 a c ha hc (.inl (by omega)) (.inl (by omega)) e
  · rintro i H3 hi ⟨h1, h2, h3, h4, h5, rid, h6, h7, h8⟩
    refine ⟨h1, h2, h3, h4, h5, rid, by rw [h6, rws_next h0], fun a ha => ⟨fun h => ?_, fun _ h => by omega⟩, fun a c ha hc e1 e2 => h8 a c ha hc (by omega) (by omega)⟩
    by_cases e : a < i
    · exact (h7 a ha).1 e
    · exact (h7 a ha).2 (by omega) h0
  rintro H3 ⟨h1, h2, h3, h4, h5, rid, h6, h7, h8⟩
  have hnb : NB H.length H3 (H.length + 2) n m rid := by
    refine ⟨?_, fun i hi => ((h7 i hi).1 hi).1, by omega, fun i hi => by have := ((h7 i hi).1 hi).2; omega, fun i j hi hj e => h8 i j hi hj (.inl hi) (.inl hj) e, fun i hi => by have := ((h7 i hi).1 hi).2; omega⟩
    rw [h6]
    unfold rws
    rw [List.map_congr_left (fun a ha => by rw [if_pos (List.mem_range.1 ha)])]
  refine O_nil ?_
  refine Gh_e ⟨⟨19, [(2, .po (H.length + 1) 0), (3, .po (H.length + 3) 0)]⟩, H3⟩ ?_
  refine W_seq ?_
  refine W_gh ?_
  refine W_reg ?_
  refine O_lda h4 (by kernel_rfl) rfl ?_
  refine O_st (o := 0) (sz := 2) (cs := [.i 0, .ro []]) [.i ((n - 1 : Nat) : Int), .own (H.length + 2) n 0 n] [.i ((n - 1 : Nat) : Int), .own (H.length + 2) n 0 n] h2 ?_
  refine O_nil ?_
  refine Gh_e ⟨⟨19, [(2, .po (H.length + 1) 0)]⟩, H3.set (H.length + 1) (.lv 2 [.i ((n - 1 : Nat) : Int), .own (H.length + 2) n 0 n])⟩ ?_
  refine W_ret ?_
  refine ⟨[.agg [.i ((n - 1 : Nat) : Int), .own (H.length + 2) n 0 n]], res_box rfl (sq_self h2) rfl rfl, hk (H.length + 2) rid _ ?_ (h5.set (by omega))⟩
  exact ⟨get_ne hnb.top (by omega), fun i hi => get_ne (hnb.row i hi) (by have := ((h7 i hi).1 hi).2; omega), hnb.lb, hnb.lr, hnb.inj, hnb.ne⟩
end G11

namespace G11
open Go hiding Obj mark
open Go.Pl Go.Am Go.Am.As
set_option linter.unusedVariables false

/-- an own slice whose elements are handed over, each by itself -/
theorem mapOO_range {f : AV → Option AV} {g h : Nat → AV} : ∀ (l : List Nat), (∀ i ∈ l, f (g i) = some (h i)) → mapOO f (l.map fun i => [g i]) = some (l.map fun i => [h i])
  | [], _ => rfl
  | i :: l, hyp => by
    have ih := mapOO_range (f := f) (g := g) (h := h) l (fun j hj => hyp j (by simp [hj]))
    simp [mapOO, mapO, hyp i (by simp), ih]
theorem pk_NB {L b n d : Nat} {m : Nat → Nat → Int} {rid : Nat → Nat} {H : List Obj} (h : NB L H b n m rid) : pk (d + 2) H (.own b n 0 n) = some (.ro ((matL n m).map (cL cI_i64))) := by
  unfold pk
  rw [if_neg (by simp [AV.refFree, AV.bel])]
  have e1 : ((List.range n).map fun i => [AV.own (rid i) n 0 n]).length = n := by simp
  have e2 : (((List.range n).map fun i => [AV.own (rid i) n 0 n]).drop 0).take n = (List.range n).map fun i => [AV.own (rid i) n 0 n] := by rw [List.drop_zero]; exact List.take_of_length_le (by simp)
  simp only [getLive, h.top, e1, if_true, e2]
  rw [mapOO_range (h := fun i => .ro ((rowL n (m i)).map cI_i64)) _ (fun i hi => pk_own okI_i64.bel (h.row i (List.mem_range.1 hi)) (by simp [rowL]))]
  simp only [roOf, matL, List.map_map]
  rfl
theorem NB.ext {L b n : Nat} {m : Nat → Nat → Int} {rid : Nat → Nat} {H H' : List Obj} (h : NB L H b n m rid) (hf : Fr H.length H H') : NB L H' b n m rid :=
  ⟨(hf _ (get_lt h.top)).trans h.top, fun i hi => (hf _ (get_lt (h.row i hi))).trans (h.row i hi), h.lb, h.lr, h.inj, h.ne⟩
theorem NB.low {L L' b n : Nat} {m : Nat → Nat → Int} {rid : Nat → Nat} {H : List Obj} (h : NB L H b n m rid) (hL : L' ≤ L) : NB L' H b n m rid :=
  ⟨h.top, h.row, Nat.le_trans hL h.lb, fun i hi => Nat.le_trans hL (h.lr i hi), h.inj, h.ne⟩
theorem NB.set {L b n id : Nat} {m : Nat → Nat → Int} {rid : Nat → Nat} {H : List Obj} {o : Obj} (h : NB L H b n m rid) (hi : id < L) : NB L (H.set id o) b n m rid :=
  ⟨get_ne h.top (by have := h.lb; omega), fun i hi' => get_ne (h.row i hi') (by have := h.lr i hi'; omega), h.lb, h.lr, h.inj, h.ne⟩

/-- a call apart -/
theorem O_pt {f : Nat} {args : List RX} {xs : List AV} {r : AV} {d : Option Nat} {g : Option (Nat × Bool)} {dr : Bool} {os : List ROp} {t : T} {H : List Obj} {K : T → List Obj → Prop} (ha : args.map (evT E0.glob t) = xs) (hb : AV.bels 0 xs = true) (hf : hp f = false) (h : Pt E0 hp f xs r)
    (hk : WO E0 hp dr os (putD t d r) H K) (hw : wantT t g = some true := by kernel_rfl) : WO E0 hp dr (⟨d, g, .call f args⟩ :: os) t H K := by
  subst ha
  exact (WO_do hw).2 (WO_call.2 (WC_free (.inr hf) hb h hk))
theorem bigE_eq (x : Int) : m67 x = some (!bigE x) ∨ x = -1099511627776 := by
  by_cases h : x = -1099511627776
  · exact .inr h
  · left
    have : (x != -1099511627776) = true := by simpa using h
    simp [m67, bigE, this]

/-- a bound out of its range is marked -/
theorem lim_f {id sx ex n i j : Nat} {e : Int} {m : Nat → Nat → Int} {H : List Obj} {K : AV → List Obj → Prop} (hi : i < 13) (hj : j < 13) (hs : H[id]? = some (sqo n m)) (hsx : H[sx]? = some (.lv 1 [.po id 0])) (hex : H[ex]? = some (.lv 1 [.i e]))
    (hk : K (.tup []) (H.set ex (.lv 1 [.i (bif bigE (m i j) then 11 else e)]))) : WC E0 hp false 87 [.i (i : Int), .i (j : Int), .po sx 0, .po ex 0] H K := by
  refine W_call fn87 (.inr (snaps_none 2 rfl rfl)) rfl (by decide) ?_
  generalize hx : m i j = x at hk
  have hfin : W E0 hp (.gh [] (.cond (.t 26) (.gh [] (.reg [L11.u (.store 1 (.t 3) (.c (.int .i64 11)))]) [.kill [3]]) .skip) [.kill [3, 26]]) H.length (fun s' => ∃ l, resultsT [] s' = some l ∧ K (oneOf l) s'.H) (fun _ _ => False) (fun s' => ∃ l, resultsT [] s' = some l ∧ K (oneOf l) s'.H)
      ⟨⟨27, [(3, .po ex 0), (26, .bool (bigE x))]⟩, H⟩ := by
    refine W_gh ?_
    refine W_cond (c := bigE x) (by kernel_rfl) (fun c1 => ?_) (fun c1 => ?_)
    · rw [c1] at hk ⊢
      refine W_gh ?_
      refine W_reg ?_
      refine O_st (o := 0) (sz := 1) (cs := [.i e]) [.i 11] [.i 11] hex ?_
      refine O_nil ?_
      refine Gh_e ⟨⟨27, [(26, .bool true)]⟩, H.set ex (.lv 1 [.i 11])⟩ ?_
      refine Gh_e ⟨⟨27, []⟩, H.set ex (.lv 1 [.i 11])⟩ ?_
      exact ⟨[], rfl, hk⟩
    · rw [c1] at hk ⊢
      refine W_skip ?_
      refine Gh_e ⟨⟨27, []⟩, H⟩ ?_
      refine ⟨[], rfl, ?_⟩
      have e2 : H.set ex (.lv 1 [.i e]) = H := by
        obtain ⟨hl, he⟩ := List.getElem?_eq_some_iff.1 hex
        rw [← he]; simp
      rw [cond_false, e2] at hk
      exact hk
  refine W_seq ?_
  refine W_gh ?_
  refine W_reg ?_
  refine O_ldb (o := 0) hsx (by kernel_rfl) rfl ?_
  refine O_q 4 ?_
  refine O_sqld (i := i) (j := j) hi hj hs ?_
  rw [hx]
  refine O_q 2 ?_
  refine O_fork (n := 15) (x != -1099511627776) (by kernel_rfl) (fun c => ?_) (fun c => ?_)
  · have c1 : x ≠ -1099511627776 := by simpa using c
    refine O_ldb (o := 0) hsx (by kernel_rfl) rfl ?_
    refine O_q 4 ?_
    refine O_sqld (i := i) (j := j) hi hj hs ?_
    rw [hx]
    have h67 : m67 x = some (!bigE x) := (bigE_eq x).resolve_right c1
    refine O_pt (xs := [.i x]) (by kernel_rfl) rfl rfl (p67 x _ h67) ?_
    refine O_q 2 ?_
    refine O_nil ?_
    refine Gh_e ⟨⟨27, [(3, .po ex 0), (26, .bool (!!bigE x))]⟩, H⟩ ?_
    rw [Bool.not_not]
    exact hfin
  · have c1 : x = -1099511627776 := by simpa using c
    refine O_q 11 ?_
    refine O_nil ?_
    refine Gh_e ⟨⟨27, [(3, .po ex 0), (26, .bool false)]⟩, H⟩ ?_
    have : bigE x = false := by rw [c1]; rfl
    rw [this] at hfin
    exact hfin
end G11

namespace G11
open Go hiding Obj mark
open Go.Pl Go.Am Go.Am.As
set_option linter.unusedVariables false

theorem limited_eq {id n : Nat} {m : Nat → Nat → Int} {H : List Obj} {K : AV → List Obj → Prop} (hn : n ≤ 13) (h0 : 0 < n) (hH : H[id]? = some (sqo n m))
    (h1 : ∀ H', bigB n m n 0 → Fr H.length H H' → K (.tup [.agg [.i 0, .ro []], .i 11]) H')
    (h2 : ∀ b rid H', ¬ bigB n m n 0 → NB H.length H' b n m rid → Fr H.length H H' → K (.tup [.agg [.i ((n - 1 : Nat) : Int), .own b n 0 n], .i 0]) H') : WC E0 hp false 48 [.po id 0] H K := by
  have hid := get_lt hH
  refine W_call fn48 (.inr (snaps_none 0 rfl rfl)) rfl (by decide) ?_
  refine W_seq ?_
  refine W_gh ?_
  refine W_reg ?_
  refine O_box (cs := [.po id 0]) (sz := 1) H.length (H ++ [.lv 1 [.po id 0]]) (by kernel_rfl) rfl ?_
  refine O_alloc (sz := 2) (H.length + 1) (H ++ [.lv 1 [.po id 0], .lv 2 [.i 0, .nils]]) rfl ?_
  refine O_q 1 ?_
  refine O_nil ?_
  refine Gh_one (s1 := ⟨⟨14, [(1, .po H.length 0), (2, .po (H.length + 1) 0)]⟩, H ++ [.lv 1 [.po id 0], .lv 2 [.i 0, .nils]]⟩) (by kernel_rfl) ?_
  refine Gh_wkp (id := H.length + 1) (cs' := [.i 0, .ro []]) (get_end 1 rfl) rfl rfl rfl ?_
  refine Gh_nil ?_
  have e1 : (H ++ [Obj.lv 1 [.po id 0], .lv 2 [.i 0, .nils]]).set (H.length + 1) (.lv 2 [.i 0, .ro []]) = H ++ [.lv 1 [.po id 0], .lv 2 [.i 0, .ro []]] := by simp
  show W E0 hp _ _ _ _ _ ⟨_, (H ++ [Obj.lv 1 [.po id 0], .lv 2 [.i 0, .nils]]).set (H.length + 1) (.lv 2 [.i 0, .ro []])⟩
  rw [e1]
  refine W_seq ?_
  refine W_reg ?_
  refine O_alloc (sz := 1) (H.length + 2) (H ++ [.lv 1 [.po id 0], .lv 2 [.i 0, .ro []], .lv 1 [.i 0]]) rfl ?_
  refine O_st (o := 0) (sz := 1) (cs := [.i 0]) (id := H.length + 2) [.i 0] [.i 0] (get_end 2 rfl) ?_
  refine O_nil ?_
  have e2 : (H ++ [Obj.lv 1 [.po id 0], .lv 2 [.i 0, .ro []], .lv 1 [.i 0]]).set (H.length + 2) (.lv 1 [.i 0]) = H ++ [.lv 1 [.po id 0], .lv 2 [.i 0, .ro []], .lv 1 [.i 0]] := by simp
  rw [e2]
  have s0 : (H ++ [Obj.lv 1 [.po id 0], .lv 2 [.i 0, .ro []], .lv 1 [.i 0]])[H.length]? = some (.lv 1 [.po id 0]) := get_end 0 rfl
  have s1 : (H ++ [Obj.lv 1 [.po id 0], .lv 2 [.i 0, .ro []], .lv 1 [.i 0]])[H.length + 1]? = some (.lv 2 [.i 0, .ro []]) := get_end 1 rfl
  have s2 : (H ++ [Obj.lv 1 [.po id 0], .lv 2 [.i 0, .ro []], .lv 1 [.i 0]])[H.length + 2]? = some (.lv 1 [.i 0]) := get_end 2 rfl
  have s3 : (H ++ [Obj.lv 1 [.po id 0], .lv 2 [.i 0, .ro []], .lv 1 [.i 0]])[id]? = some (sqo n m) := get_app hH
  have s4 : (H ++ [Obj.lv 1 [.po id 0], .lv 2 [.i 0, .ro []], .lv 1 [.i 0]]).length = H.length + 3 := by simp
  have s5 : Fr H.length H (H ++ [Obj.lv 1 [.po id 0], .lv 2 [.i 0, .ro []], .lv 1 [.i 0]]) := Fr.app
  generalize H ++ [Obj.lv 1 [.po id 0], .lv 2 [.i 0, .ro []], .lv 1 [.i 0]] = H1 at s0 s1 s2 s3 s4 s5 ⊢
  refine W_seq ?_
  refine W_gh ?_
  refine W_reg ?_
  refine O_H H1 ?_
  refine O_ldb (o := 0) s0 (by kernel_rfl) rfl ?_
  refine O_q 1 ?_
  refine O_wc (xs := [.po id 0, .fn 87 [.po H.length 0, .po (H.length + 2) 0]]) (by kernel_rfl) (by kernel_rfl) ?_
  refine each_eq (n := n) (fun i j H' => H'[H.length]? = some (.lv 1 [.po id 0]) ∧ H'[H.length + 1]? = some (.lv 2 [.i 0, .ro []]) ∧ H'[id]? = some (sqo n m) ∧ Fr H.length H H' ∧ ∃ e : Int, H'[H.length + 2]? = some (.lv 1 [.i e]) ∧ (e = 11 ∧ bigB n m i j ∨ e = 0 ∧ ¬ bigB n m i j))
    hn (fun i j H' h => ⟨m, h.2.2.1⟩) (fun i j H' h => .inr ?_) ⟨s0, s1, s3, s5, 0, s2, .inr ⟨rfl, fun ⟨a, b, _, _, h, _⟩ => by omega⟩⟩ ?_ ?_ ?_
  · obtain ⟨h1, h2, h3, h4, e, h5, h6⟩ := h
    rw [s4]
    exact ⟨get_take h1 (by omega), get_take h2 (by omega), get_take h3 (by omega), h4.take (by omega), e, get_take h5 (by omega), h6⟩
  · rintro i j H2 K' hi hj ⟨h1, h2, h3, h4, e, h5, h6⟩ hk'
    refine lim_f (by omega) (by omega) h3 h1 h5 ?_
    refine hk' _ ⟨get_ne h1 (by omega), get_ne h2 (by omega), get_ne h3 (by omega), h4.set (by omega), _, sq_self h5, ?_⟩
    cases hb : bigE (m i j) with
    | true => exact .inl ⟨rfl, i, j, hi, hj, .inr ⟨rfl, by omega⟩, hb⟩
    | false =>
      rcases h6 with ⟨rfl, a, b, ha, hb', hlt, hbig⟩ | ⟨rfl, hno⟩
      · exact .inl ⟨rfl, a, b, ha, hb', by omega, hbig⟩
      · refine .inr ⟨rfl, fun ⟨a, b, ha, hb', hlt, hbig⟩ => ?_⟩
        by_cases e : a = i ∧ b = j
        · obtain ⟨rfl, rfl⟩ := e; rw [hb] at hbig; cases hbig
        · exact hno ⟨a, b, ha, hb', by omega, hbig⟩
  · rintro i H2 hi ⟨h1, h2, h3, h4, e, h5, h6⟩
    refine ⟨h1, h2, h3, h4, e, h5, ?_⟩
    rcases h6 with ⟨rfl, a, b, ha, hb', hlt, hbig⟩ | ⟨rfl, hno⟩
    · exact .inl ⟨rfl, a, b, ha, hb', by omega, hbig⟩
    · exact .inr ⟨rfl, fun ⟨a, b, ha, hb', hlt, hbig⟩ => hno ⟨a, b, ha, hb', by omega, hbig⟩⟩
  rintro H2 ⟨f1, f2, f3, f4, e, f5, f6⟩
  refine O_nil ?_
  refine Gh_e ⟨⟨14, [(1, .po H.length 0), (2, .po (H.length + 1) 0), (4, .po (H.length + 2) 0)]⟩, H2⟩ ?_
  refine W_seq ?_
  refine W_seq ?_
  refine W_gh ?_
  refine W_reg ?_
  refine O_ldb (o := 0) f5 (by kernel_rfl) rfl ?_
  refine O_q 1 ?_
  refine O_nil ?_
  refine Gh_e ⟨⟨14, [(1, .po H.length 0), (2, .po (H.length + 1) 0), (4, .po (H.length + 2) 0), (9, .bool (e != 0))]⟩, H2⟩ ?_
  refine W_gh ?_
  refine W_cond (c := (e != 0)) (by kernel_rfl) (fun c => ?_) (fun c => ?_)
  · obtain ⟨rfl, hbig⟩ : e = 11 ∧ bigB n m n 0 := by
      rcases f6 with h | ⟨rfl, _⟩
      · exact h
      · simp at c
    refine W_seq ?_
    refine W_gh ?_
    refine W_drawW (L := H2.length) rfl ?_
    show WD E0 hp H2.length _ _ (H2 ++ []) _
    rw [List.append_nil]
    refine WD_q 1 [{}] ?_
    refine WD_ldb (o := 0) f5 rfl ?_
    refine WD_stb (o := 0) (sz := 2) (cs := [.i 0, .ro []]) [.i 0, .nils] [.i 0, .nils] f2 ?_
    refine WD_q 1 [{}] ?_
    refine WD_nil ⟨?_, ?_⟩
    · simp [pairsDisj, disj, noneOf]
    refine Gh_one (s1 := ⟨⟨14, [(1, .po H.length 0), (2, .po (H.length + 1) 0), (3, .i 11), (9, .bool true)]⟩, H2.set (H.length + 1) (.lv 2 [.i 0, .nils])⟩) (by kernel_rfl) ?_
    refine Gh_wkp (id := H.length + 1) (cs' := [.i 0, .ro []]) (sq_self f2) rfl rfl rfl ?_
    refine Gh_nil ?_
    show W E0 hp _ _ _ _ _ ⟨_, (H2.set (H.length + 1) (.lv 2 [.i 0, .nils])).set (H.length + 1) (.lv 2 [.i 0, .ro []])⟩
    rw [set_set]
    refine W_ret ?_
    exact ⟨[.agg [.i 0, .ro []], .i 11], res_box rfl (sq_self f2) rfl rfl, h1 _ hbig (f4.set (by omega))⟩
  · obtain ⟨rfl, hno⟩ : e = 0 ∧ ¬ bigB n m n 0 := by
      rcases f6 with ⟨rfl, _⟩ | h
      · simp at c
      · exact h
    refine W_skip ?_
    refine Gh_e ⟨⟨14, [(1, .po H.length 0), (2, .po (H.length + 1) 0)]⟩, H2⟩ ?_
    refine W_seq ?_
    refine W_gh ?_
    refine W_reg ?_
    refine O_ldb (o := 0) f1 (by kernel_rfl) rfl ?_
    refine O_wc (xs := [.po id 0]) (by kernel_rfl) (by kernel_rfl) ?_
    have hl2 : H.length + 3 ≤ H2.length := by have := get_lt f5; omega
    refine bounds_eq hn h0 f3 (fun b rid H3 g1 g2 => ?_)
    replace g1 : NB H2.length H3 b n m rid := g1
    replace g2 : Fr H2.length H2 H3 := g2
    have f2' : H3[H.length + 1]? = some (.lv 2 [.i 0, .ro []]) := (g2 _ (by omega)).trans f2
    refine O_st (o := 0) (sz := 2) (cs := [.i 0, .ro []]) [.i ((n - 1 : Nat) : Int), .own b n 0 n] [.i ((n - 1 : Nat) : Int), .own b n 0 n] f2' ?_
    refine O_q 1 ?_
    refine O_nil ?_
    refine Gh_e ⟨⟨14, [(2, .po (H.length + 1) 0), (3, .i 0)]⟩, H3.set (H.length + 1) (.lv 2 [.i ((n - 1 : Nat) : Int), .own b n 0 n])⟩ ?_
    refine W_ret ?_
    exact ⟨[.agg [.i ((n - 1 : Nat) : Int), .own b n 0 n], .i 0], res_box rfl (sq_self f2') rfl rfl, h2 b rid _ hno ((g1.set (by omega)).low (by omega)) ((f4.trans g2 (by omega)).set (by omega))⟩

theorem solve_mat {N : Nat} {l d : List (List Int)} (h : Rt N l) (hs : solve l = .inr d) : d = matL (N + 1) (ent d) := by
  rw [h.solve_eq] at hs
  cases hr : rounds (N + 1) (wt l) (N + 1) bf0 with
  | some s => rw [hr] at hs; cases hs
  | none =>
    rw [hr] at hs
    injection hs with hs
    subst hs
    exact matL_congr (fun i j hi hj => (matO_ent hi hj).symm)

theorem p14 (a0 : SBounds) (r : SBounds × List Int × Bool × Int) (h : m14 a0 = some r) : Pt E0 hp 14 [.agg (cSBounds a0)] (.tup [.agg [.i r.1.N, .ro (r.1.Most.map (cL cI_i64))], .ro (r.2.1.map cI_i64), .bool r.2.2.1, .i r.2.2.2]) := by
  obtain ⟨c, _, e32, hR⟩ := check_eq0 a0
  unfold m14 at h
  rw [e32] at h
  simp only [Option.bind_some] at h
  refine Pt_W fn14 rfl (by decide) ?_
  refine W_seq ?_
  refine W_gh ?_
  refine W_reg ?_
  refine O_p 5 ?_
  refine O_nil ?_
  refine Gh_e ⟨⟨35, [(1, .po 0 0), (2, .po 1 0)]⟩, [.lv 2 (cSBounds a0), .lv 2 [.i 0, .ro []]]⟩ ?_
  refine W_seq ?_
  refine W_seq ?_
  refine W_gh ?_
  refine W_reg ?_
  refine O_p 1 ?_
  refine O_pt (xs := [.agg (cSBounds a0)]) (by kernel_rfl) (bels_cons (okSBounds.bel a0) rfl) rfl (p32 a0 c e32) ?_
  refine O_p 1 ?_
  refine O_nil ?_
  refine Gh_e ⟨⟨35, [(1, .po 0 0), (2, .po 1 0), (6, .i c)]⟩, [.lv 2 (cSBounds a0), .lv 2 [.i 0, .ro []]]⟩ ?_
  refine W_seq ?_
  refine W_gh ?_
  refine W_reg ?_
  refine O_p 2 ?_
  refine O_nil ?_
  refine Gh_e ⟨⟨35, [(1, .po 0 0), (2, .po 1 0), (6, .i c), (14, .bool (c != 0))]⟩, [.lv 2 (cSBounds a0), .lv 2 [.i 0, .ro []]]⟩ ?_
  refine W_gh ?_
  refine W_cond (c := (c != 0)) (by kernel_rfl) (fun hc => ?_) (fun hc => ?_)
  · rw [hc, cond_true] at h
    injection h with h
    subst h
    refine W_seq ?_
    refine W_gh ?_
    refine W_reg ?_
    refine O_p 6 ?_
    refine O_nil ?_
    refine Gh_e ⟨⟨35, [(1, .po 0 0), (2, .po 1 0), (3, .ro []), (4, .bool false), (5, .i c), (14, .bool (c != 0))]⟩, [.lv 2 (cSBounds a0), .lv 2 [.i 0, .ro []]]⟩ ?_
    refine W_ret ?_
    exact Fin_free (l := [.agg [.i 0, .ro []], .ro [], .bool false, .i c]) (by kernel_rfl) (by kernel_rfl) rfl
  have hc0 : c = 0 := by simpa using hc
  subst hc0
  simp only [show ((0 : Int) != 0) = false from rfl, cond_false] at h
  have h6 : ¬ a0.N > 6 := by
    intro hc
    rw [decide_eq_true hc, cond_true] at h
    cases h
  rw [decide_eq_false h6, cond_false] at h
  injection h with h
  obtain ⟨N, hN, hrt⟩ := (hR rfl).rt h6
  have hN7 := hrt.hN
  refine W_skip ?_
  refine Gh_e ⟨⟨35, [(1, .po 0 0), (2, .po 1 0)]⟩, [.lv 2 (cSBounds a0), .lv 2 [.i 0, .ro []]]⟩ ?_
  refine W_seq ?_
  refine W_gh ?_
  refine W_reg ?_
  refine O_p 1 ?_
  refine O_wc (xs := [.agg [.i (N : Int), .ro (a0.Most.map (cL cI_i64))]]) (by kernel_rfl) (by rw [← hN]; kernel_rfl) ?_
  refine closed_eq hrt (fun c0 cs H' hs hf => ?_) (fun q H' m d hs hm hq hsq hf => ?_)
  · rw [hs] at h
    dsimp only at h
    subst h
    replace hf : Fr 2 [.lv 2 (cSBounds a0), .lv 2 [.i 0, .ro []]] H' := hf
    have hb1 : H'[1]? = some (.lv 2 [.i 0, .ro []]) := hf 1 (by omega)
    refine O_q 5 ?_
    refine O_nil ?_
    refine Gh_e ⟨⟨35, [(2, .po 1 0), (7, .nilp), (8, .ro ((c0 :: cs).map cI_i64))]⟩, H'⟩ ?_
    refine W_seq ?_
    refine W_seq ?_
    refine W_gh ?_
    refine W_reg ?_
    refine O_q 2 ?_
    refine O_nil ?_
    refine Gh_e ⟨⟨35, [(2, .po 1 0), (7, .nilp), (8, .ro ((c0 :: cs).map cI_i64)), (23, .bool true)]⟩, H'⟩ ?_
    refine W_gh ?_
    refine W_cond (c := true) (by kernel_rfl) (fun _ => ?_) (fun c => by simp at c)
    refine W_seq ?_
    refine W_gh ?_
    refine W_reg ?_
    refine O_q 2 ?_
    refine O_st (o := 0) (sz := 2) (cs := [.i 0, .ro []]) [.i 0, .nils] [.i 0, .nils] hb1 ?_
    refine O_q 3 ?_
    refine O_nil ?_
    refine Gh_one (s1 := ⟨⟨35, [(2, .po 1 0), (3, .ro ((c0 :: cs).map cI_i64)), (4, .bool false), (5, .i 0), (7, .nilp), (23, .bool true)]⟩, H'.set 1 (.lv 2 [.i 0, .nils])⟩) (by kernel_rfl) ?_
    refine Gh_wkp (id := 1) (cs' := [.i 0, .ro []]) (sq_self hb1) rfl rfl rfl ?_
    refine Gh_nil ?_
    refine W_ret ?_
    refine Fin_free (l := [.agg [.i 0, .ro []], .ro ((c0 :: cs).map cI_i64), .bool false, .i 0]) (res_box rfl (sq_self (sq_self hb1)) rfl rfl) rfl ?_
    exact bels_cons rfl (bels_cons (ro_bel okI_i64.bel _) rfl)
  rw [hs] at h
  dsimp only at h
  replace hf : Fr 2 [.lv 2 (cSBounds a0), .lv 2 [.i 0, .ro []]] H' := hf
  replace hq : 2 ≤ q := hq
  have hb1 : H'[1]? = some (.lv 2 [.i 0, .ro []]) := hf 1 (by omega)
  have hd : d = matL (N + 1) m := (solve_mat hrt hs).trans (matL_congr (fun i j hi hj => (hm i j hi hj).symm))
  have hql := get_lt hsq
  refine O_q 5 ?_
  refine O_nil ?_
  refine Gh_e ⟨⟨35, [(2, .po 1 0), (7, .po q 0), (8, .nils)]⟩, H'⟩ ?_
  refine W_seq ?_
  refine W_seq ?_
  refine W_gh ?_
  refine W_reg ?_
  refine O_q 2 ?_
  refine O_nil ?_
  refine Gh_e ⟨⟨35, [(2, .po 1 0), (7, .po q 0), (8, .nils), (23, .bool false)]⟩, H'⟩ ?_
  refine W_gh ?_
  refine W_cond (c := false) (by kernel_rfl) (fun c => by simp at c) (fun _ => ?_)
  refine W_skip ?_
  refine Gh_e ⟨⟨35, [(2, .po 1 0), (7, .po q 0)]⟩, H'⟩ ?_
  refine W_seq ?_
  refine W_gh ?_
  refine W_reg ?_
  refine O_q 1 ?_
  refine O_wc (xs := [.po q 0]) (by kernel_rfl) (by kernel_rfl) ?_
  -- the end, for what was found
  have hend : ∀ (av : AV) (y : List AV) (e : Int) (H2 : List Obj) (row : List (List Int)) (n2 : Int), av = .agg y → y.length = 2 → allOne y = true → y.map AV.wk1 = y → Fr 2 [.lv 2 (cSBounds a0), .lv 2 [.i 0, .ro []]] H2 → (∀ H3, (∀ a, 2 ≤ a → a < H2.length → H3[a]? = H2[a]?) → pk 5 H3 av = some (.agg [.i n2, .ro (row.map (cL cI_i64))])) → r = (⟨n2, row⟩, [], e == 0, e) →
      WO E0 hp false [L11.o 26 (.mov (.t 28)), L11.o 29 (.ext (.t 26) 0), L11.o 30 (.ext (.t 26) 1), L11.o 9 (.alloc [.int .i64 0, .nils]), L11.u (.store 2 (.t 9) (.t 29)), L11.o 10 (.mov (.t 30))] ((⟨35, [(2, .po 1 0), (7, .po q 0), (27, .po q 0)]⟩ : T).put 28 (.tup [av, .i e])) H2 (fun t H => Gh 0 [.kill [7, 26, 27, 28, 29, 30], .wk [9]] ⟨t, H⟩ fun s' => W E0 hp (.seq (.gh [] (.reg [L11.o 31 (.load 2 true (.t 9)), L11.o 32 (.mov (.t 10)), L11.o 33 (.bin .eql (.t 32) (.c (.int .i64 0))), L11.o 34 (.mov (.t 10)), L11.u (.store 2 (.t 2) (.t 31)), L11.o 3 (.mov (.c .nils)), L11.o 4 (.mov (.t 33)), L11.o 5 (.mov (.t 34))]) [.kill [9, 10, 31, 32, 33, 34], .wk [3]]) .ret) 0 (As.Fin [.inr (2, 2, true), .inl 3, .inl 4, .inl 5] (.tup [.agg [.i r.1.N, .ro (r.1.Most.map (cL cI_i64))], .ro (r.2.1.map cI_i64), .bool r.2.2.1, .i r.2.2.2])) (fun _ _ => False) (As.Fin [.inr (2, 2, true), .inl 3, .inl 4, .inl 5] (.tup [.agg [.i r.1.N, .ro (r.1.Most.map (cL cI_i64))], .ro (r.2.1.map cI_i64), .bool r.2.2.1, .i r.2.2.2])) s') := by
    rintro av y e H2 row n2 rfl hy2 hy1 hyw hf2 hpk rfl
    obtain ⟨y0, y1, rfl⟩ : ∃ y0 y1, y = [y0, y1] := by
      match y, hy2 with
      | [y0, y1], _ => exact ⟨y0, y1, rfl⟩
    have hb2 : H2[1]? = some (.lv 2 [.i 0, .ro []]) := hf2 1 (by omega)
    have hl2 := get_lt hb2
    refine O_q 3 ?_
    refine O_alloc (sz := 2) H2.length (H2 ++ [.lv 2 [.i 0, .nils]]) rfl ?_
    refine O_st (o := 0) (sz := 2) (cs := [.i 0, .nils]) (id := H2.length) [y0, y1] [y0, y1] get_last ?_ (h1 := hy1)
    have e3 : (H2 ++ [Obj.lv 2 [.i 0, .nils]]).set H2.length (.lv 2 [y0, y1]) = H2 ++ [.lv 2 [y0, y1]] := by simp
    rw [e3]
    refine O_q 1 ?_
    refine O_nil ?_
    refine Gh_one (s1 := ⟨⟨35, [(2, .po 1 0), (9, .po H2.length 0), (10, .i e)]⟩, H2 ++ [.lv 2 [y0, y1]]⟩) (by kernel_rfl) ?_
    refine Gh_wkp (id := H2.length) (cs' := [y0, y1]) get_last rfl hyw rfl ?_
    refine Gh_nil ?_
    have e4 : (H2 ++ [Obj.lv 2 [y0, y1]]).set H2.length (.lv 2 [y0, y1]) = H2 ++ [.lv 2 [y0, y1]] := by simp
    show W E0 hp _ _ _ _ _ ⟨_, (H2 ++ [Obj.lv 2 [y0, y1]]).set H2.length (.lv 2 [y0, y1])⟩
    rw [e4]
    refine W_seq ?_
    refine W_gh ?_
    refine W_reg ?_
    refine O_lda (n := 2) (cs := [y0, y1]) (id := H2.length) get_last (by kernel_rfl) rfl ?_
    refine O_q 3 ?_
    refine O_st (o := 0) (sz := 2) (cs := [.i 0, .ro []]) (id := 1) [y0, y1] [y0, y1] (get_app hb2) ?_ (h1 := hy1)
    refine O_q 3 ?_
    refine O_nil ?_
    refine Gh_e ⟨⟨35, [(2, .po 1 0), (3, .ro []), (4, .bool (e == 0)), (5, .i e)]⟩, (H2 ++ [Obj.lv 2 [y0, y1]]).set 1 (Obj.lv 2 [y0, y1])⟩ ?_
    refine W_ret ?_
    refine Fin_pk (l := [.agg [y0, y1], .ro [], .bool (e == 0), .i e]) (res_box rfl (sq_self (get_app hb2)) rfl rfl) (pk_tup (mapO_cons ?_ rfl))
    refine hpk _ (fun a ha1 ha2 => ?_)
    show ((H2 ++ [Obj.lv 2 [y0, y1]]).set 1 _)[a]? = _
    rw [List.getElem?_set_ne (by omega), List.getElem?_append_left ha2]
  refine limited_eq (n := N + 1) (by omega) (by omega) hsq (fun H2 hb hf2 => ?_) (fun b rid H2 hb hnb hf2 => ?_)
  · replace hf2 : Fr H'.length H' H2 := hf2
    have hbig : big d = true := by rw [hd]; exact bigL.2 hb
    rw [hbig, cond_true] at h
    refine O_at (t' := (⟨35, [(2, .po 1 0), (7, .po q 0), (27, .po q 0)]⟩ : T).put 28 (.tup [.agg [.i 0, .ro []], .i 11])) (by kernel_rfl) rfl ?_
    exact hend _ [.i 0, .ro []] 11 H2 [] 0 rfl rfl rfl rfl (hf.trans hf2 (by omega)) (fun H3 _ => pk_free rfl) h.symm
  · replace hf2 : Fr H'.length H' H2 := hf2
    replace hnb : NB H'.length H2 b (N + 1) m rid := hnb
    have hbig : big d = false := by
      cases e : big d with
      | false => rfl
      | true => rw [hd] at e; exact (hb (bigL.1 e)).elim
    rw [hbig, cond_false] at h
    refine O_at (t' := (⟨35, [(2, .po 1 0), (7, .po q 0), (27, .po q 0)]⟩ : T).put 28 (.tup [.agg [.i ((N + 1 - 1 : Nat) : Int), .own b (N + 1) 0 (N + 1)], .i 0])) (by kernel_rfl) rfl ?_
    refine hend _ [.i ((N + 1 - 1 : Nat) : Int), .own b (N + 1) 0 (N + 1)] 0 H2 d a0.N rfl rfl rfl rfl (hf.trans hf2 (by omega)) (fun H3 hH3 => ?_) h.symm
    have hnb3 : NB 2 H3 b (N + 1) m rid :=
      ⟨(hH3 _ (by have := hnb.lb; omega) (get_lt hnb.top)).trans hnb.top, fun i hi => (hH3 _ (by have := hnb.lr i hi; omega) (get_lt (hnb.row i hi))).trans (hnb.row i hi), by have := hnb.lb; omega, fun i hi => by have := hnb.lr i hi; omega, hnb.inj, hnb.ne⟩
    refine pk_agg (mapO_cons (y := .i a0.N) ?_ (mapO_cons (y := .ro (d.map (cL cI_i64))) ?_ rfl))
    · rw [hN]; exact pk_free rfl
    · rw [hd]; exact pk_NB hnb3
end G11

namespace G11
open Go hiding Obj mark
open Go.Pl Go.Am Go.Am.As
set_option linter.unusedVariables false

/-- a row, to be read -/
def RowV (H : List Obj) (v : AV) (n : Nat) (f : Nat → Int) : Prop := v = .ro ((rowL n f).map cI_i64) ∨ ∃ id fl, v = .own id n 0 n ∧ H[id]? = some (.live fl 1 ((rowL n f).map cI_i64))
/-- rows, to be read -/
def MatV (H : List Obj) (v : AV) (n : Nat) (m : Nat → Nat → Int) : Prop := v = .ro ((matL n m).map (cL cI_i64)) ∨ ∃ (id : Nat) (fl : Fl) (r : Nat → AV), v = .own id n 0 n ∧ H[id]? = some (.live fl 1 ((List.range n).map fun i => [r i])) ∧ ∀ i, i < n → RowV H (r i) n (m i)

theorem RowV.ext {H H' : List Obj} {v : AV} {n : Nat} {f : Nat → Int} (h : RowV H v n f) (hf : Fr H.length H H') : RowV H' v n f := by
  rcases h with h | ⟨id, fl, h1, h2⟩
  · exact .inl h
  · exact .inr ⟨id, fl, h1, (hf _ (get_lt h2)).trans h2⟩
theorem MatV.ext {H H' : List Obj} {v : AV} {n : Nat} {m : Nat → Nat → Int} (h : MatV H v n m) (hf : Fr H.length H H') : MatV H' v n m := by
  rcases h with h | ⟨id, fl, r, h1, h2, h3⟩
  · exact .inl h
  · exact .inr ⟨id, fl, r, h1, (hf _ (get_lt h2)).trans h2, fun i hi => (h3 i hi).ext hf⟩
/-- .. that lies below a place -/
theorem RowV.fr {L : Nat} {H H' : List Obj} {v : AV} {n : Nat} {f : Nat → Int} (h : RowV H v n f) (hL : H.length ≤ L) (hf : Fr L H H') : RowV H' v n f := h.ext (fun a ha => hf a (by omega))
theorem RowV.one {H : List Obj} {v : AV} {n : Nat} {f : Nat → Int} (h : RowV H v n f) : v.cells = [v] ∧ v.one = true := by
  rcases h with rfl | ⟨id, fl, rfl, h2⟩ <;> exact ⟨rfl, rfl⟩

section
variable {dr : Bool} {os : List ROp} {t : T} {H : List Obj} {K : T → List Obj → Prop}
end

section
variable {b0 k : Nat} {os : List (Nat × ROp)} {t : T} {H : List Obj} {K : T → List Obj → List FP → Prop} {d : Nat}
end

end G11

namespace G11
open Go hiding Obj mark
open Go.Pl Go.Am Go.Am.As
set_option linter.unusedVariables false

theorem RowV.refs {H : List Obj} {v : AV} {n : Nat} {f : Nat → Int} (h : RowV H v n f) : ∀ a ∈ Am.refs v, a < H.length := by
  rcases h with rfl | ⟨id, fl, rfl, h2⟩
  · intro a ha; cases ha
  · intro a ha
    simp only [Am.refs, List.mem_singleton] at ha
    subst ha; exact get_lt h2
theorem MatV.refs {H : List Obj} {v : AV} {n : Nat} {m : Nat → Nat → Int} (h : MatV H v n m) : ∀ a ∈ Am.refs v, a < H.length := by
  rcases h with rfl | ⟨id, fl, r, rfl, h2, h3⟩
  · intro a ha; cases ha
  · intro a ha
    simp only [Am.refs, List.mem_singleton] at ha
    subst ha; exact get_lt h2
theorem MatV.one {H : List Obj} {v : AV} {n : Nat} {m : Nat → Nat → Int} (h : MatV H v n m) : v.one = true ∧ v.wk1 = v := by
  rcases h with rfl | ⟨id, fl, r, rfl, h2, h3⟩ <;> exact ⟨rfl, rfl⟩

/-- rows that may be written -/
structure NC (L : Nat) (H : List Obj) (b n : Nat) (m : Nat → Nat → Int) (rid : Nat → Nat) (ft fr : Fl) : Prop where
  top : H[b]? = some (.live ft 1 ((List.range n).map fun i => [.own (rid i) n 0 n]))
  row : ∀ i, i < n → H[rid i]? = some (.live fr 1 ((rowL n (m i)).map cI_i64))
  lb : L ≤ b
  lr : ∀ i, i < n → L ≤ rid i
  inj : ∀ i j, i < n → j < n → rid i = rid j → i = j
  ne : ∀ i, i < n → rid i ≠ b
  ft : ft.free = true
  fr : fr.free = true
theorem NC.ext {L b n : Nat} {m : Nat → Nat → Int} {rid : Nat → Nat} {H H' : List Obj} {ft fr : Fl} (h : NC L H b n m rid ft fr) (hf : Fr H.length H H') : NC L H' b n m rid ft fr :=
  ⟨(hf _ (get_lt h.top)).trans h.top, fun i hi => (hf _ (get_lt (h.row i hi))).trans (h.row i hi), h.lb, h.lr, h.inj, h.ne, h.ft, h.fr⟩
theorem NC.low {L L' b n : Nat} {m : Nat → Nat → Int} {rid : Nat → Nat} {H : List Obj} {ft fr : Fl} (h : NC L H b n m rid ft fr) (hL : L' ≤ L) : NC L' H b n m rid ft fr :=
  ⟨h.top, h.row, Nat.le_trans hL h.lb, fun i hi => Nat.le_trans hL (h.lr i hi), h.inj, h.ne, h.ft, h.fr⟩
theorem NC.set {L b n id : Nat} {m : Nat → Nat → Int} {rid : Nat → Nat} {H : List Obj} {o : Obj} {ft fr : Fl} (h : NC L H b n m rid ft fr) (hi : id < L) : NC L (H.set id o) b n m rid ft fr :=
  ⟨get_ne h.top (by have := h.lb; omega), fun i hi' => get_ne (h.row i hi') (by have := h.lr i hi'; omega), h.lb, h.lr, h.inj, h.ne, h.ft, h.fr⟩
theorem NC.pk {L b n d : Nat} {m : Nat → Nat → Int} {rid : Nat → Nat} {H : List Obj} {ft fr : Fl} (h : NC L H b n m rid ft fr) : pk (d + 2) H (.own b n 0 n) = some (.ro ((matL n m).map (cL cI_i64))) := by
  unfold Am.pk
  rw [if_neg (by simp [AV.refFree, AV.bel])]
  have e1 : ((List.range n).map fun i => [AV.own (rid i) n 0 n]).length = n := by simp
  have e2 : (((List.range n).map fun i => [AV.own (rid i) n 0 n]).drop 0).take n = (List.range n).map fun i => [AV.own (rid i) n 0 n] := by rw [List.drop_zero]; exact List.take_of_length_le (by simp)
  simp only [getLive, h.top, e1, if_true, e2]
  rw [mapOO_range (h := fun i => .ro ((rowL n (m i)).map cI_i64)) _ (fun i hi => pk_own okI_i64.bel (h.row i (List.mem_range.1 hi)) (by simp [rowL]))]
  simp only [roOf, matL, List.map_map]
  rfl
/-- an element is written -/
theorem NC.put {L b n i j : Nat} {m : Nat → Nat → Int} {v : Int} {rid : Nat → Nat} {H : List Obj} {ft fr : Fl} (h : NC L H b n m rid ft fr) (hi : i < n) (hj : j < n) : NC L (H.set (rid i) (.live fr 1 (((rowL n (m i)).map cI_i64).set j [.i v]))) b n (up2 m i j v) rid ft fr := by
  refine ⟨get_ne h.top (fun e => h.ne i hi e.symm), fun a ha => ?_, h.lb, h.lr, h.inj, h.ne, h.ft, h.fr⟩
  by_cases e : a = i
  · subst e
    rw [fo_set hj, sq_self (h.row a ha)]
    have : rowL n (upd (m a) j v) = rowL n (up2 m a j v a) := by
      unfold rowL
      refine List.map_congr_left (fun k _ => ?_)
      unfold upd up2
      by_cases hk : k = j
      · rw [if_pos hk, if_pos ⟨rfl, hk⟩]
      · rw [if_neg hk, if_neg (fun g => hk g.2)]
    rw [this]
  · have hne : rid a ≠ rid i := fun g => e (h.inj a i ha hi g)
    rw [List.getElem?_set_ne (fun g => hne g.symm), h.row a ha]
    have : rowL n (m a) = rowL n (up2 m i j v a) := by
      unfold rowL
      refine List.map_congr_left (fun k _ => ?_)
      unfold up2
      rw [if_neg (fun g => e g.1)]
    rw [this]

end G11

namespace G11
open Go hiding Obj mark
open Go.Pl Go.Am Go.Am.As
set_option linter.unusedVariables false

end G11

namespace G11
open Go hiding Obj mark
open Go.Pl Go.Am Go.Am.As
set_option linter.unusedVariables false

end G11

namespace G11
open Go hiding Obj mark
open Go.Pl Go.Am Go.Am.As
set_option linter.unusedVariables false

end G11

namespace G11
open Go hiding Obj mark
open Go.Pl Go.Am Go.Am.As
set_option linter.unusedVariables false

end G11

namespace G11
open Go hiding Obj mark
open Go.Pl Go.Am Go.Am.As
set_option linter.unusedVariables false

end G11

namespace G11
open Go hiding Obj mark
open Go.Pl Go.Am Go.Am.As
set_option linter.unusedVariables false

end G11

namespace G11
open Go hiding Obj mark
open Go.Pl Go.Am Go.Am.As
set_option linter.unusedVariables false

end G11

namespace G11
open Go hiding Obj mark
open Go.Pl Go.Am Go.Am.As
set_option linter.unusedVariables false

end G11

namespace G11
open Go hiding Obj mark
open Go.Pl Go.Am Go.Am.As
set_option linter.unusedVariables false

end G11

namespace G11
open Go hiding Obj mark
open Go.Pl Go.Am Go.Am.As
set_option linter.unusedVariables false

theorem box2 {b N : Nat} {m : Nat → Nat → Int} {L : Nat} {H : List Obj} {rid : Nat → Nat} {l : List (List Int)} (hl : l = matL (N + 1) m) (h : NB L H b (N + 1) m rid) {d : Nat} :
    mapO (pk (d + 2) H) [.i ((N + 1 - 1 : Nat) : Int), .own b (N + 1) 0 (N + 1)] = some [.i (N : Int), .ro (l.map (cL cI_i64))] := by
  subst hl
  exact mapO_cons (pk_free rfl) (mapO_cons (pk_NB h) rfl)

end G11

namespace G11
open Go hiding Obj mark
open Go.Pl Go.Am Go.Am.As
set_option linter.unusedVariables false
set_option maxHeartbeats 400000

theorem oneOf_po {l : List AV} {j : Nat} (h : oneOf l = .po j 0) : l = [.po j 0] := by
  match l, h with
  | [], h => cases h
  | [x], h => exact congrArg (fun y => [y]) h
  | x :: y :: l, h => cases h

/-- a call that makes one object, apart -/
theorem mk_of {f : Nat} {xs : List AV} {P : List AV → Prop} (hf : hp f = true) (h : WC E0 hp false f xs [] (fun v H' => ∃ j sz cs, v = .po j 0 ∧ H'[j]? = some (.lv sz cs) ∧ AV.bels 0 cs = true ∧ P cs)) :
    ∃ cs, P cs ∧ ∃ n, cIT E0.fns (execT E0 hp n) f (.pown 0 0 0 0 :: xs) = some (.tup [.pown 0 0 0 0, .agg cs]) := by
  obtain ⟨n, v, H', hd, j, sz, cs, rfl, hj, hbl, hP⟩ := h
  refine ⟨cs, hP, n, ?_⟩
  unfold doCall at hd
  simp only [cond_false] at hd
  rw [if_pos hf] at hd
  unfold cHT at hd
  unfold cIT
  split at hd
  case h_2 => simp at hd
  rename_i rf hrf
  try simp only [hrf]
  split at hd
  case isFalse => simp at hd
  rename_i hc
  rw [if_neg (by simp; omega)]
  show (if xs.length = rf.nargs ∧ rf.nargs ≤ rf.ntmps then _ else none) = _
  rw [if_pos hc]
  change (match execT E0 hp n rf.body 0 ⟨startT rf xs, []⟩ with | some (.exit _, _) => none | some (_, s') => _ | none => none) = _ at hd
  split at hd
  · simp at hd
  · rename_i e s' hne he
    rw [he]
    split at hd
    case h_2 => simp at hd
    rename_i l hl
    simp only [Option.some.injEq, Prod.mk.injEq] at hd
    obtain ⟨h1, rfl⟩ := hd
    have hl2 := oneOf_po h1
    subst hl2
    have hj2 : s'.H[j]? = some (.live .norm sz [cs]) := hj
    cases e with
    | exit i => exact (hne i rfl).elim
    | normal => simp only [hl, hj2, hbl, if_true]
    | ret => simp only [hl, hj2, hbl, if_true]
  · simp at hd

theorem WD_mkc {b0 k d f sz : Nat} {os : List (Nat × ROp)} {t : T} {H : List Obj} {K : T → List Obj → List FP → Prop} {args : List RX} {xs cs : List AV} (hr : H[b0 + k]? = some .rsv) (ha : args.map (evT E0.glob t) = xs) (hb : AV.bels 0 xs = true) (hsz : cs.length = sz)
    (hm : ∃ n, cIT E0.fns (execT E0 hp n) f (.pown 0 0 0 0 :: xs) = some (.tup [.pown 0 0 0 0, .agg cs]))
    (hk : WD E0 hp b0 os (t.put d (.po (b0 + k) 0)) (H.set (b0 + k) (.lv sz cs)) (fun t' H' fs => K t' H' ({ w := [b0 + k] } :: fs))) : WD E0 hp b0 ((k, ⟨some d, none, .mkc f args⟩) :: os) t H K := by
  subst ha hsz
  obtain ⟨n, hm⟩ := hm
  obtain ⟨n2, t', H', fs, h2, h3⟩ := hk
  refine ⟨max n n2, t', H', _, ?_, h3⟩
  have hl := get_lt hr
  have e1 : wantT t (none : Option (Nat × Bool)) = some true := rfl
  have e2 : plOk H (b0 + k) (.mkc f args) = true := by simp [plOk, hr]
  have he' : actDT E0.glob (cIT E0.fns (execT E0 hp n)) (b0 + k) ⟨some d, none, .mkc f args⟩ t H = some (.po (b0 + k) 0, H.set (b0 + k) (.lv cs.length cs), { w := [b0 + k] }) := by
    simp only [actDT, evalDe, e1, e2, if_true, mkObj, hb, hm, putObj, hl]
    rfl
  rw [runDT, actDT_le (cIT_mono E0.fns (execT_mono (Nat.le_max_left n n2))) he']
  simp only [frc_eq]
  rw [show putD t (some d) (.po (b0 + k) 0) = t.put d (.po (b0 + k) 0) from rfl, runDT_le (cIT_mono E0.fns (execT_mono (Nat.le_max_right n n2))) os h2]

theorem sqb {n : Nat} {m : Nat → Nat → Int} : AV.bels 0 (.i (n : Int) :: sqc m) = true := bels_cons rfl (sqc_bel m)

theorem mk70 {N : Nat} {l : List (List Int)} (hn : N + 1 ≤ 13) (hl : Sq (N + 1) l) : ∃ cs, (∃ m, cs = .i ((N + 1 : Nat) : Int) :: sqc m ∧ ∀ i j, i < N + 1 → j < N + 1 → m i j = ent l i j) ∧
    ∃ n, cIT E0.fns (execT E0 hp n) 70 (.pown 0 0 0 0 :: [.agg [.i (N : Int), .ro (l.map (cL cI_i64))]]) = some (.tup [.pown 0 0 0 0, .agg cs]) :=
  mk_of (P := fun cs => ∃ m, cs = .i ((N + 1 : Nat) : Int) :: sqc m ∧ ∀ i j, i < N + 1 → j < N + 1 → m i j = ent l i j) rfl
    (of_eq hn hl fun q H' m _ hs hm _ => ⟨q, 170, _, rfl, hs, sqb, m, rfl, hm⟩)

variable {b0 k : Nat} {os : List (Nat × ROp)} {t : T} {H : List Obj} {K : T → List Obj → List FP → Prop}
end G11

namespace G11
open Go hiding Obj mark
open Go.Pl Go.Am Go.Am.As
set_option linter.unusedVariables false
set_option maxHeartbeats 1000000

def mt (m2 m : Nat → Nat → Int) (i j : Nat) : Nat → Nat → Int := if m i j ≠ -1099511627776 then low m2 i j (m i j) else m2
theorem meet_f {id id2 ax bx n n2 i j : Nat} {m m2 : Nat → Nat → Int} {H : List Obj} {K : AV → List Obj → Prop} (hi : i < 13) (hj : j < 13) (hs : H[id]? = some (sqo n m)) (hs2 : H[id2]? = some (sqo n2 m2))
    (hax : H[ax]? = some (.lv 1 [.po id 0])) (hbx : H[bx]? = some (.lv 1 [.po id2 0])) (hK : K (.tup []) (H.set id2 (sqo n2 (mt m2 m i j)))) : WC E0 hp false 79 [.i (i : Int), .i (j : Int), .po ax 0, .po bx 0] H K := by
  refine W_call fn79 (.inr (snaps_none 2 rfl rfl)) rfl (by decide) ?_
  refine W_seq ?_
  refine W_gh ?_
  refine W_reg ?_
  refine O_ldb (o := 0) hax (by kernel_rfl) rfl ?_
  refine O_q 4 ?_
  refine O_sqld (i := i) (j := j) hi hj hs ?_
  refine O_q 1 ?_
  refine O_nil ?_
  refine Gh_e ⟨⟨27, [(0, .i (i : Int)), (1, .i (j : Int)), (2, .po ax 0), (3, .po bx 0), (14, .bool (m i j != -1099511627776))]⟩, H⟩ ?_
  refine W_gh ?_
  refine W_cond (c := (m i j != -1099511627776)) (by kernel_rfl) (fun c => ?_) (fun c => ?_)
  · have e : mt m2 m i j = low m2 i j (m i j) := by unfold mt; rw [if_pos (by simpa using c)]
    rw [e] at hK
    refine W_gh ?_
    refine W_seq ?_
    refine W_draw ?_
    refine O_ldb (o := 0) hbx (by kernel_rfl) rfl ?_
    refine O_q 2 ?_
    refine O_ldb (o := 0) hax (by kernel_rfl) rfl ?_
    refine O_q 4 ?_
    refine O_sqld (i := i) (j := j) hi hj hs ?_
    refine O_nil ?_
    refine W_reg ?_
    refine O_wc (xs := [.po id2 0, .i (i : Int), .i (j : Int), .i (m i j)]) (by kernel_rfl) (by kernel_rfl) ?_
    refine lower_eq hi hj hs2 ?_
    refine O_nil ?_
    refine Gh_e ⟨⟨27, [(14, .bool (m i j != -1099511627776))]⟩, H.set id2 (sqo n2 (low m2 i j (m i j)))⟩ ?_
    refine Gh_e ⟨⟨27, []⟩, H.set id2 (sqo n2 (low m2 i j (m i j)))⟩ ?_
    exact ⟨[], rfl, hK⟩
  · have e : mt m2 m i j = m2 := by unfold mt; rw [if_neg (by simpa using c)]
    rw [e] at hK
    have e : H.set id2 (sqo n2 m2) = H := by
      obtain ⟨hl, he⟩ := List.getElem?_eq_some_iff.1 hs2
      rw [← he]; simp
    rw [e] at hK
    refine W_skip ?_
    refine Gh_e ⟨⟨27, []⟩, H⟩ ?_
    exact ⟨[], rfl, hK⟩

theorem p41 (a0 a1 : SBounds) (r : SBounds × Int) (h : m41 a0 a1 = some r) : Pt E0 hp 41 [.agg (cSBounds a0), .agg (cSBounds a1)] (.tup [.agg [.i r.1.N, .ro (r.1.Most.map (cL cI_i64))], .i r.2]) := by
  obtain ⟨c0, _, e0, hR0⟩ := check_eq0 a0
  obtain ⟨c1, _, e1, hR1⟩ := check_eq0 a1
  unfold m41 at h
  obtain ⟨c, e78, h⟩ := bind_some h
  have hce := m78_eq a0 a1 e0 e1
  rw [e78] at hce
  replace hce := Option.some.inj hce
  refine Pt_W fn41 rfl (by decide) ?_
  refine W_seq ?_
  refine W_gh ?_
  refine W_reg ?_
  refine O_p 4 ?_
  refine O_nil ?_
  refine Gh_e ⟨⟨25, [(2, .po 0 0), (3, .po 1 0), (4, .po 2 0)]⟩, [.lv 2 (cSBounds a0), .lv 2 (cSBounds a1), .lv 2 [.i 0, .ro []]]⟩ ?_
  refine W_seq ?_
  refine W_seq ?_
  refine W_gh ?_
  refine W_reg ?_
  refine O_p 2 ?_
  refine O_pt (xs := [.agg (cSBounds a0), .agg (cSBounds a1)]) (by kernel_rfl) (bels_cons (okSBounds.bel a0) (bels_cons (okSBounds.bel a1) rfl)) rfl (p78 a0 a1 c e78) ?_
  refine O_p 1 ?_
  refine O_nil ?_
  refine Gh_e ⟨⟨25, [(2, .po 0 0), (3, .po 1 0), (4, .po 2 0), (6, .i c)]⟩, [.lv 2 (cSBounds a0), .lv 2 (cSBounds a1), .lv 2 [.i 0, .ro []]]⟩ ?_
  refine W_seq ?_
  refine W_gh ?_
  refine W_reg ?_
  refine O_p 2 ?_
  refine O_nil ?_
  refine Gh_e ⟨⟨25, [(2, .po 0 0), (3, .po 1 0), (4, .po 2 0), (6, .i c), (13, .bool (c != 0))]⟩, [.lv 2 (cSBounds a0), .lv 2 (cSBounds a1), .lv 2 [.i 0, .ro []]]⟩ ?_
  refine W_gh ?_
  refine W_cond (c := (c != 0)) (by kernel_rfl) (fun hc => ?_) (fun hc => ?_)
  · replace h := fork_t hc h
    refine W_seq ?_
    refine W_gh ?_
    refine W_reg ?_
    refine O_p 4 ?_
    refine O_nil ?_
    refine Gh_e ⟨⟨25, [(2, .po 0 0), (3, .po 1 0), (4, .po 2 0), (5, .i c), (13, .bool (c != 0))]⟩, [.lv 2 (cSBounds a0), .lv 2 (cSBounds a1), .lv 2 [.i 0, .ro []]]⟩ ?_
    refine W_ret ?_
    replace h := Option.some.inj h; subst h
    exact Fin_free (l := [.agg [.i 0, .ro []], .i c]) (by kernel_rfl) (by kernel_rfl) rfl
  replace h := fork_f hc h
  have hc0 : c = 0 := by simpa using hc
  obtain ⟨z0, z1, zN⟩ := bothE_0 (hce.symm.trans hc0)
  refine W_skip ?_
  refine Gh_e ⟨⟨25, [(2, .po 0 0), (3, .po 1 0), (4, .po 2 0)]⟩, [.lv 2 (cSBounds a0), .lv 2 (cSBounds a1), .lv 2 [.i 0, .ro []]]⟩ ?_
  cases h6 : decide (a0.N > 6)
  case true => rw [h6, cond_true] at h; cases h
  rw [h6, cond_false] at h
  have h6' := of_decide_eq_false h6
  obtain ⟨N, hN, hrt⟩ := (hR0 z0).rt h6'
  obtain ⟨N', hN', hrt'⟩ := (hR1 z1).rt (by omega)
  obtain rfl : N' = N := by omega
  have hN7 := hrt.hN
  have hcs : cSBounds a0 = [.i (N' : Int), .ro (a0.Most.map (cL cI_i64))] := by rw [cSB, hN]
  have hcs' : cSBounds a1 = [.i (N' : Int), .ro (a1.Most.map (cL cI_i64))] := by rw [cSB, hN']
  rw [hrt.sq.1, hN] at h
  replace h := Option.some.inj h; subst h
  rw [hcs, hcs']
  obtain ⟨_, ⟨m0, rfl, hm0⟩, hk0⟩ := mk70 (by omega) hrt.sq
  obtain ⟨_, ⟨m1, rfl, hm1⟩, hk1⟩ := mk70 (by omega) hrt'.sq
  refine W_seq ?_
  refine W_gh ?_
  refine W_drawW (L := 3) rfl ?_
  refine WD_ps 1 (by kernel_rfl) ?_
  refine WD_mkc (sz := 170) (xs := [.agg [.i (N' : Int), .ro (a0.Most.map (cL cI_i64))]]) (by kernel_rfl) (by kernel_rfl) (bels_cons (okSBounds.bel ⟨(N' : Int), a0.Most⟩) rfl) (by simp [sqc]) hk0 ?_
  refine WD_ps 1 (by kernel_rfl) ?_
  refine WD_mkc (sz := 170) (xs := [.agg [.i (N' : Int), .ro (a1.Most.map (cL cI_i64))]]) (by kernel_rfl) (by kernel_rfl) (bels_cons (okSBounds.bel ⟨(N' : Int), a1.Most⟩) rfl) (by simp [sqc]) hk1 ?_
  refine WD_alloc (sz := 1) (by kernel_rfl) rfl ?_
  refine WD_alloc (sz := 1) (by kernel_rfl) rfl ?_
  refine WD_ps 2 (by kernel_rfl) ?_
  refine WD_nil ⟨by kernel_rfl, ?_⟩
  let H1 : List Obj := [.lv 2 [.i (N' : Int), .ro (a0.Most.map (cL cI_i64))], .lv 2 [.i (N' : Int), .ro (a1.Most.map (cL cI_i64))], .lv 2 [.i 0, .ro []], sqo (N' + 1) m0, sqo (N' + 1) m1, .lv 1 [.po 3 0], .lv 1 [.po 4 0]]
  refine Gh_e ⟨⟨25, [(4, .po 2 0), (7, .po 5 0), (8, .po 6 0)]⟩, H1⟩ ?_
  have g2 : H1[2]? = some (.lv 2 [.i 0, .ro []]) := rfl
  have g3 : H1[3]? = some (sqo (N' + 1) m0) := rfl
  have g4 : H1[4]? = some (sqo (N' + 1) m1) := rfl
  have g5 : H1[5]? = some (.lv 1 [.po 3 0]) := rfl
  have g6 : H1[6]? = some (.lv 1 [.po 4 0]) := rfl
  have g7 : H1.length = 7 := rfl
  generalize H1 = H1 at g2 g3 g4 g5 g6 g7 ⊢
  refine W_seq ?_
  refine W_gh ?_
  refine W_reg ?_
  refine O_ldb (o := 0) g6 (by kernel_rfl) rfl ?_
  refine O_q 1 ?_
  refine O_wc (xs := [.po 4 0, .fn 79 [.po 6 0, .po 5 0]]) (by kernel_rfl) (by kernel_rfl) ?_
  refine each_eq (n := N' + 1) (fun i j H' => H'[2]? = some (.lv 2 [.i 0, .ro []]) ∧ H'[4]? = some (sqo (N' + 1) m1) ∧ H'[5]? = some (.lv 1 [.po 3 0]) ∧ H'[6]? = some (.lv 1 [.po 4 0]) ∧
      ∃ m, H'[3]? = some (sqo (N' + 1) m) ∧ ∀ a b, a < N' + 1 → b < N' + 1 → m a b = if a < i ∨ a = i ∧ b < j then lessE (ent a0.Most a b) (ent a1.Most a b) else ent a0.Most a b)
    (by omega) (fun i j H' h => ⟨_, h.2.1⟩) (fun i j H' h => .inr ?_) ⟨g2, g4, g5, g6, m0, g3, fun a b ha hb => by rw [if_neg (by omega)]; exact hm0 a b ha hb⟩ ?_ ?_ ?_
  · obtain ⟨x2, x4, x5, x6, m, x3, x7⟩ := h
    rw [g7]
    exact ⟨get_take x2 (by omega), get_take x4 (by omega), get_take x5 (by omega), get_take x6 (by omega), m, get_take x3 (by omega), x7⟩
  · rintro i j H2 K' hi hj ⟨x2, x4, x5, x6, m, x3, x7⟩ hk'
    refine meet_f (by omega) (by omega) x4 x3 x6 x5 ?_
    refine hk' _ ⟨get_ne x2 (by omega), get_ne x4 (by omega), get_ne x5 (by omega), get_ne x6 (by omega), _, sq_self x3, fun a b ha hb => ?_⟩
    have hij : m i j = ent a0.Most i j := by rw [x7 i j hi hj, if_neg (by omega)]
    unfold mt low
    rw [hm1 i j hi hj, hij]
    by_cases e2 : a = i ∧ b = j
    · obtain ⟨rfl, rfl⟩ := e2
      rw [if_pos (show a < a ∨ a = a ∧ b < b + 1 by omega)]
      unfold lessE
      by_cases e3 : ent a1.Most a b ≠ -1099511627776
      · rw [if_pos e3]
        by_cases e4 : ent a0.Most a b = -1099511627776 ∨ ent a1.Most a b < ent a0.Most a b
        · rw [if_pos e4, up2_eq, if_pos ⟨e3, e4⟩]
        · rw [if_neg e4, if_neg (fun g => e4 g.2)]; exact hij
      · rw [if_neg e3, if_neg (fun g => e3 g.1)]; exact hij
    · have e5 : (a < i ∨ a = i ∧ b < j + 1) ↔ (a < i ∨ a = i ∧ b < j) := by omega
      have e6 : (if ent a1.Most i j ≠ -1099511627776 then (if ent a0.Most i j = -1099511627776 ∨ ent a1.Most i j < ent a0.Most i j then up2 m i j (ent a1.Most i j) else m) else m) a b = m a b := by
        split
        · split
          · rw [up2_ne e2]
          · rfl
        · rfl
      rw [e6, x7 a b ha hb]
      simp only [e5]
  · rintro i H2 hi ⟨x2, x4, x5, x6, m, x3, x7⟩
    refine ⟨x2, x4, x5, x6, m, x3, fun a b ha hb => ?_⟩
    rw [x7 a b ha hb]
    have e5 : (a < i ∨ a = i ∧ b < N' + 1) ↔ (a < i + 1 ∨ a = i + 1 ∧ b < 0) := by omega
    simp only [e5]
  rintro H2 ⟨x2, x4, x5, x6, m, x3, x7⟩
  have hl2 := get_lt x6
  refine O_nil ?_
  refine Gh_e ⟨⟨25, [(4, .po 2 0), (7, .po 5 0)]⟩, H2⟩ ?_
  refine W_seq ?_
  refine W_gh ?_
  refine W_reg ?_
  refine O_ldb (o := 0) x5 (by kernel_rfl) rfl ?_
  refine O_wc (xs := [.po 3 0]) (by kernel_rfl) (by kernel_rfl) ?_
  refine bounds_eq (n := N' + 1) (by omega) (by omega) x3 (fun b rid H4 hnb hf4 => ?_)
  replace hf4 : Fr H2.length H2 H4 := hf4
  replace hnb : NB H2.length H4 b (N' + 1) m rid := hnb
  have w4 : H4[2]? = some (.lv 2 [.i 0, .ro []]) := (hf4 2 (by omega)).trans x2
  refine O_st (o := 0) (sz := 2) (cs := [.i 0, .ro []]) (id := 2) [.i ((N' + 1 - 1 : Nat) : Int), .own b (N' + 1) 0 (N' + 1)] [.i ((N' + 1 - 1 : Nat) : Int), .own b (N' + 1) 0 (N' + 1)] w4 ?_
  refine O_q 1 ?_
  refine O_nil ?_
  refine Gh_e ⟨⟨25, [(4, .po 2 0), (5, .i 0)]⟩, H4.set 2 (.lv 2 [.i ((N' + 1 - 1 : Nat) : Int), .own b (N' + 1) 0 (N' + 1)])⟩ ?_
  refine W_ret ?_
  have hmat : meetL a0.Most a1.Most (N' + 1) = matL (N' + 1) m := matL_congr (fun a b ha hb => by rw [x7 a b ha hb, if_pos (by omega)])
  exact Fin_pk (l := [.agg [.i ((N' + 1 - 1 : Nat) : Int), .own b (N' + 1) 0 (N' + 1)], .i 0]) (res_box rfl (sq_self w4) rfl rfl) (pk_tup (mapO_cons (pk_agg (box2 hmat (hnb.set (by omega)))) rfl))

def viol (x v : Int) : Bool := v != -1099511627776 && (x == -1099511627776 || decide (x > v))
theorem leq_f {id ax bx n n2 i j : Nat} {ok : Bool} {z : Int} {l : List (List Int)} {m : Nat → Nat → Int} {H : List Obj} {K : AV → List Obj → Prop} (hi : i < 13) (hj : j < 13) (hi2 : i < n2) (hj2 : j < n2) (hl : Sq n2 l) (hs : H[id]? = some (sqo n m))
    (hb : H[1]? = some (.lv 2 [.i z, .ro (l.map (cL cI_i64))])) (hax : H[ax]? = some (.lv 1 [.po id 0])) (hbx : H[bx]? = some (.lv 1 [.bool ok])) (hK : K (.tup []) (H.set bx (.lv 1 [.bool (ok && !(viol (m i j) (ent l i j)))]))) :
    WC E0 hp false 83 [.i (i : Int), .i (j : Int), .po 1 0, .po ax 0, .po bx 0] H K := by
  refine W_call fn83 (.inr (snaps_none 2 rfl rfl)) rfl (by decide) ?_
  refine W_seq ?_
  refine W_gh ?_
  refine W_reg ?_
  refine O_q 1 ?_
  refine O_ldb (o := 1) hb (by kernel_rfl) rfl ?_
  refine O_q 1 ?_
  refine O_rold (i := i) (by kernel_rfl) (hl.row hi2) ?_
  refine O_q 1 ?_
  refine O_rold (i := j) (by kernel_rfl) (hl.el hi2 hj2) ?_
  refine O_q 1 ?_
  refine O_nil ?_
  generalize hv : ent l i j = v at hK ⊢
  generalize hx : m i j = x at hK ⊢
  refine Gh_e ⟨⟨41, [(0, .i (i : Int)), (1, .i (j : Int)), (3, .po ax 0), (4, .po bx 0), (7, .i v)]⟩, H⟩ ?_
  refine W_seq ?_
  refine W_cut ⟨⟨41, [(4, .po bx 0), (40, .bool (v != -1099511627776 && (x == -1099511627776 || decide (x > v))))]⟩, H⟩ ?_ ?_
  · generalize e_g1 : (v != -1099511627776 && (x == -1099511627776 || decide (x > v))) = g1
    refine W_gh ?_
    refine W_reg ?_
    refine O_q 3 ?_
    refine O_fork (n := 18) (v != -1099511627776) (by kernel_rfl) (fun c2 => ?_) (fun c2 => ?_)
    · refine O_ldb (o := 0) hax (by kernel_rfl) rfl ?_
      refine O_q 4 ?_
      refine O_sqld (i := i) (j := j) hi hj hs ?_
      rw [hx]
      refine O_q 2 ?_
      refine O_fork (n := 28) (x == -1099511627776) (by kernel_rfl) (fun c3 => ?_) (fun c3 => ?_)
      · refine O_q 12 ?_
        refine O_nil ?_
        refine Gh_e ⟨⟨41, [(4, .po bx 0), (40, .bool true)]⟩, H⟩ ?_
        have q := e_g1; simp only [c2, c3, Bool.true_and, Bool.true_or] at q; subst q
        rfl
      · refine O_ldb (o := 0) hax (by kernel_rfl) rfl ?_
        refine O_q 4 ?_
        refine O_sqld (i := i) (j := j) hi hj hs ?_
        rw [hx]
        refine O_q 4 ?_
        refine O_nil ?_
        refine Gh_e ⟨⟨41, [(4, .po bx 0), (40, .bool (decide (x > v)))]⟩, H⟩ ?_
        have q := e_g1; simp only [c2, c3, Bool.true_and, Bool.false_or] at q; subst q
        rfl
    · refine O_q 22 ?_
      refine O_nil ?_
      refine Gh_e ⟨⟨41, [(4, .po bx 0), (40, .bool false)]⟩, H⟩ ?_
      have q := e_g1; simp only [c2, Bool.false_and] at q; subst q
      rfl
  have e : viol x v = (v != -1099511627776 && (x == -1099511627776 || decide (x > v))) := rfl
  rw [e] at hK
  generalize (v != -1099511627776 && (x == -1099511627776 || decide (x > v))) = g at hK ⊢
  refine W_gh ?_
  refine W_cond (c := g) (by kernel_rfl) (fun c => ?_) (fun c => ?_)
  · subst c
    rw [Bool.not_true, Bool.and_false] at hK
    refine W_gh ?_
    refine W_reg ?_
    refine O_st (o := 0) (sz := 1) (cs := [.bool ok]) [.bool false] [.bool false] hbx ?_
    refine O_nil ?_
    refine Gh_e ⟨⟨41, [(40, .bool true)]⟩, H.set bx (.lv 1 [.bool false])⟩ ?_
    refine Gh_e ⟨⟨41, []⟩, H.set bx (.lv 1 [.bool false])⟩ ?_
    exact ⟨[], rfl, hK⟩
  · subst c
    rw [Bool.not_false, Bool.and_true] at hK
    have e : H.set bx (.lv 1 [.bool ok]) = H := by
      obtain ⟨hl, he⟩ := List.getElem?_eq_some_iff.1 hbx
      rw [← he]; simp
    rw [e] at hK
    refine W_skip ?_
    refine Gh_e ⟨⟨41, []⟩, H⟩ ?_
    exact ⟨[], rfl, hK⟩

theorem leqL_iff {d l : List (List Int)} {n : Nat} : leqL d l n = true ↔ ∀ a b, a < n → b < n → viol (ent d a b) (ent l a b) = false := by
  unfold leqL viol
  simp only [List.all_eq_true, List.mem_range, Bool.not_eq_true']
  constructor
  · intro h a b ha hb; exact h a ha b hb
  · intro h a ha b hb; exact h a b ha hb

theorem p43 (a0 a1 : SBounds) (r : Bool × Int) (h : m43 a0 a1 = some r) : Pt E0 hp 43 [.agg (cSBounds a0), .agg (cSBounds a1)] (.tup [.bool r.1, .i r.2]) := by
  obtain ⟨c0, _, e0, hR0⟩ := check_eq0 a0
  obtain ⟨c1, _, e1, hR1⟩ := check_eq0 a1
  unfold m43 at h
  obtain ⟨c, e78, h⟩ := bind_some h
  have hce := m78_eq a0 a1 e0 e1
  rw [e78] at hce
  replace hce := Option.some.inj hce
  refine Pt_W fn43 rfl (by decide) ?_
  refine W_seq ?_
  refine W_gh ?_
  refine W_reg ?_
  refine O_p 4 ?_
  refine O_nil ?_
  refine Gh_e ⟨⟨27, [(2, .po 0 0), (3, .po 1 0)]⟩, [.lv 2 (cSBounds a0), .lv 2 (cSBounds a1)]⟩ ?_
  refine W_seq ?_
  refine W_seq ?_
  refine W_gh ?_
  refine W_reg ?_
  refine O_p 2 ?_
  refine O_pt (xs := [.agg (cSBounds a0), .agg (cSBounds a1)]) (by kernel_rfl) (bels_cons (okSBounds.bel a0) (bels_cons (okSBounds.bel a1) rfl)) rfl (p78 a0 a1 c e78) ?_
  refine O_p 1 ?_
  refine O_nil ?_
  refine Gh_e ⟨⟨27, [(2, .po 0 0), (3, .po 1 0), (6, .i c)]⟩, [.lv 2 (cSBounds a0), .lv 2 (cSBounds a1)]⟩ ?_
  refine W_seq ?_
  refine W_gh ?_
  refine W_reg ?_
  refine O_p 2 ?_
  refine O_nil ?_
  refine Gh_e ⟨⟨27, [(2, .po 0 0), (3, .po 1 0), (6, .i c), (14, .bool (c != 0))]⟩, [.lv 2 (cSBounds a0), .lv 2 (cSBounds a1)]⟩ ?_
  refine W_gh ?_
  refine W_cond (c := (c != 0)) (by kernel_rfl) (fun hc => ?_) (fun hc => ?_)
  · replace h := fork_t hc h
    refine W_seq ?_
    refine W_gh ?_
    refine W_reg ?_
    refine O_p 3 ?_
    refine O_nil ?_
    refine Gh_e ⟨⟨27, [(2, .po 0 0), (3, .po 1 0), (4, .bool false), (5, .i c), (14, .bool (c != 0))]⟩, [.lv 2 (cSBounds a0), .lv 2 (cSBounds a1)]⟩ ?_
    refine W_ret ?_
    replace h := Option.some.inj h; subst h
    exact Fin_free (l := [.bool false, .i c]) (by kernel_rfl) (by kernel_rfl) rfl
  replace h := fork_f hc h
  have hc0 : c = 0 := by simpa using hc
  obtain ⟨z0, z1, zN⟩ := bothE_0 (hce.symm.trans hc0)
  refine W_skip ?_
  refine Gh_e ⟨⟨27, [(2, .po 0 0), (3, .po 1 0)]⟩, [.lv 2 (cSBounds a0), .lv 2 (cSBounds a1)]⟩ ?_
  cases h6 : decide (a0.N > 6)
  case true => rw [h6, cond_true] at h; cases h
  rw [h6, cond_false] at h
  have h6' := of_decide_eq_false h6
  obtain ⟨N, hN, hrt⟩ := (hR0 z0).rt h6'
  obtain ⟨N', hN', hrt'⟩ := (hR1 z1).rt (by omega)
  obtain rfl : N' = N := by omega
  have hN7 := hrt.hN
  have hcs : cSBounds a0 = [.i (N' : Int), .ro (a0.Most.map (cL cI_i64))] := by rw [cSB, hN]
  have hcs' : cSBounds a1 = [.i (N' : Int), .ro (a1.Most.map (cL cI_i64))] := by rw [cSB, hN']
  rw [hrt.sq.1] at h
  replace h := Option.some.inj h; subst h
  rw [hcs, hcs']
  refine W_seq ?_
  refine W_gh ?_
  refine W_reg ?_
  refine O_p 1 ?_
  refine O_wc (xs := [.agg [.i (N' : Int), .ro (a0.Most.map (cL cI_i64))]]) (by kernel_rfl) (by kernel_rfl) ?_
  refine closed_eq hrt (fun c0 cs H' hs hf => ?_) (fun q H' m d hs hm hq hsq hf => ?_)
  · rw [hs]
    refine O_q 3 ?_
    refine O_alloc (sz := 1) H'.length (H' ++ [.lv 1 [.nilp]]) rfl ?_
    refine O_st (o := 0) (sz := 1) (cs := [.nilp]) (id := H'.length) [.nilp] [.nilp] get_last ?_
    refine O_q 1 ?_
    refine O_nil ?_
    have eH : (H' ++ [Obj.lv 1 [.nilp]]).set H'.length (.lv 1 [.nilp]) = H' ++ [.lv 1 [.nilp]] := by simp
    rw [eH]
    refine Gh_e ⟨⟨27, [(3, .po 1 0), (7, .po H'.length 0)]⟩, H' ++ [.lv 1 [.nilp]]⟩ ?_
    refine W_seq ?_
    refine W_seq ?_
    refine W_gh ?_
    refine W_reg ?_
    refine O_ldb (o := 0) get_last (by kernel_rfl) rfl ?_
    refine O_q 1 ?_
    refine O_nil ?_
    refine Gh_e ⟨⟨27, [(3, .po 1 0), (7, .po H'.length 0), (22, .bool true)]⟩, H' ++ [.lv 1 [.nilp]]⟩ ?_
    refine W_gh ?_
    refine W_cond (c := true) (by kernel_rfl) (fun _ => ?_) (fun c => by simp at c)
    refine W_seq ?_
    refine W_reg ?_
    refine O_q 2 ?_
    refine O_nil ?_
    refine W_ret ?_
    exact Fin_free (l := [.bool true, .i 0]) (by kernel_rfl) (by kernel_rfl) rfl
  rw [hs]
  replace hf : Fr 2 [.lv 2 [.i (N' : Int), .ro (a0.Most.map (cL cI_i64))], .lv 2 [.i (N' : Int), .ro (a1.Most.map (cL cI_i64))]] H' := hf
  replace hq : 2 ≤ q := hq
  have g1 : H'[1]? = some (.lv 2 [.i (N' : Int), .ro (a1.Most.map (cL cI_i64))]) := hf 1 (by omega)
  refine O_q 3 ?_
  refine O_alloc (sz := 1) H'.length (H' ++ [.lv 1 [.nilp]]) rfl ?_
  refine O_st (o := 0) (sz := 1) (cs := [.nilp]) (id := H'.length) [.po q 0] [.po q 0] get_last ?_
  refine O_q 1 ?_
  refine O_nil ?_
  have eH : (H' ++ [Obj.lv 1 [.nilp]]).set H'.length (.lv 1 [.po q 0]) = H' ++ [.lv 1 [.po q 0]] := by simp
  rw [eH]
  refine Gh_e ⟨⟨27, [(3, .po 1 0), (7, .po H'.length 0)]⟩, H' ++ [.lv 1 [.po q 0]]⟩ ?_
  refine W_seq ?_
  refine W_seq ?_
  refine W_gh ?_
  refine W_reg ?_
  refine O_ldb (o := 0) get_last (by kernel_rfl) rfl ?_
  refine O_q 1 ?_
  refine O_nil ?_
  refine Gh_e ⟨⟨27, [(3, .po 1 0), (7, .po H'.length 0), (22, .bool false)]⟩, H' ++ [.lv 1 [.po q 0]]⟩ ?_
  refine W_gh ?_
  refine W_cond (c := false) (by kernel_rfl) (fun c => by simp at c) (fun _ => ?_)
  refine W_skip ?_
  refine Gh_e ⟨⟨27, [(3, .po 1 0), (7, .po H'.length 0)]⟩, H' ++ [.lv 1 [.po q 0]]⟩ ?_
  have x1 : (H' ++ [Obj.lv 1 [.po q 0]])[1]? = some (.lv 2 [.i (N' : Int), .ro (a1.Most.map (cL cI_i64))]) := get_app g1
  have xq : (H' ++ [Obj.lv 1 [.po q 0]])[q]? = some (sqo (N' + 1) m) := get_app hsq
  have xA : (H' ++ [Obj.lv 1 [.po q 0]])[H'.length]? = some (.lv 1 [.po q 0]) := get_last
  have hqA : q < H'.length := get_lt hsq
  generalize H' ++ [Obj.lv 1 [.po q 0]] = H1 at x1 xq xA ⊢
  generalize H'.length = A at xA hqA ⊢
  refine W_seq ?_
  refine W_reg ?_
  refine O_alloc (sz := 1) H1.length (H1 ++ [.lv 1 [.bool false]]) rfl ?_
  refine O_st (o := 0) (sz := 1) (cs := [.bool false]) (id := H1.length) [.bool true] [.bool true] get_last ?_
  have eH : (H1 ++ [Obj.lv 1 [.bool false]]).set H1.length (.lv 1 [.bool true]) = H1 ++ [.lv 1 [.bool true]] := by simp
  rw [eH]
  refine O_at (t' := ⟨27, [(3, .po 1 0), (7, .po A 0), (9, .po H1.length 0)]⟩) (by kernel_rfl) rfl ?_
  refine O_nil ?_
  have y1 : (H1 ++ [Obj.lv 1 [.bool true]])[1]? = some (.lv 2 [.i (N' : Int), .ro (a1.Most.map (cL cI_i64))]) := get_app x1
  have yq : (H1 ++ [Obj.lv 1 [.bool true]])[q]? = some (sqo (N' + 1) m) := get_app xq
  have yA : (H1 ++ [Obj.lv 1 [.bool true]])[A]? = some (.lv 1 [.po q 0]) := get_app xA
  have yB : (H1 ++ [Obj.lv 1 [.bool true]])[H1.length]? = some (.lv 1 [.bool true]) := get_last
  have hAB : A < H1.length := get_lt xA
  generalize H1 ++ [Obj.lv 1 [.bool true]] = H2 at y1 yq yA yB ⊢
  generalize H1.length = B at yB hAB ⊢
  have hBl := get_lt yB
  refine W_seq ?_
  refine W_gh ?_
  refine W_reg ?_
  refine O_ldb (o := 0) yA (by kernel_rfl) rfl ?_
  refine O_q 1 ?_
  refine O_wc (xs := [.po q 0, .fn 83 [.po 1 0, .po A 0, .po B 0]]) (by kernel_rfl) (by kernel_rfl) ?_
  refine each_eq (n := N' + 1) (fun i j H' => H'[1]? = some (.lv 2 [.i (N' : Int), .ro (a1.Most.map (cL cI_i64))]) ∧ H'[q]? = some (sqo (N' + 1) m) ∧ H'[A]? = some (.lv 1 [.po q 0]) ∧
      ∃ ok : Bool, H'[B]? = some (.lv 1 [.bool ok]) ∧ (ok = true ↔ ∀ a b, a < N' + 1 → b < N' + 1 → (a < i ∨ a = i ∧ b < j) → viol (ent d a b) (ent a1.Most a b) = false))
    (by omega) (fun i j H' h => ⟨_, h.2.1⟩) (fun i j H' h => .inr ?_) ⟨y1, yq, yA, true, yB, ⟨fun _ a b _ _ h => by omega, fun _ => rfl⟩⟩ ?_ ?_ ?_
  · obtain ⟨z1, zq, zA, ok, zB, zk⟩ := h
    exact ⟨get_take z1 (show 1 < H2.length by omega), get_take zq (show q < H2.length by omega), get_take zA (show A < H2.length by omega), ok, get_take zB (show B < H2.length by omega), zk⟩
  · rintro i j H3 K' hi hj ⟨z1, zq, zA, ok, zB, zk⟩ hk'
    refine leq_f (by omega) (by omega) hi hj hrt'.sq zq z1 zA zB ?_
    refine hk' _ ⟨get_ne z1 (by omega), get_ne zq (by omega), get_ne zA (by omega), _, sq_self zB, ?_⟩
    rw [hm i j hi hj, Bool.and_eq_true, Bool.not_eq_true', zk]
    constructor
    · rintro ⟨k1, k2⟩ a b ha hb h
      by_cases e2 : a = i ∧ b = j
      · obtain ⟨rfl, rfl⟩ := e2; exact k2
      · exact k1 a b ha hb (by omega)
    · intro k1
      exact ⟨fun a b ha hb h => k1 a b ha hb (by omega), k1 i j hi hj (by omega)⟩
  · rintro i H3 hi ⟨z1, zq, zA, ok, zB, zk⟩
    refine ⟨z1, zq, zA, ok, zB, zk.trans ⟨fun k a b ha hb h => k a b ha hb (by omega), fun k a b ha hb h => k a b ha hb (by omega)⟩⟩
  rintro H3 ⟨z1, zq, zA, ok, zB, zk⟩
  refine O_nil ?_
  refine Gh_e ⟨⟨27, [(9, .po B 0)]⟩, H3⟩ ?_
  refine W_seq ?_
  refine W_gh ?_
  refine W_reg ?_
  refine O_ldb (o := 0) zB (by kernel_rfl) rfl ?_
  refine O_q 2 ?_
  refine O_nil ?_
  refine Gh_e ⟨⟨27, [(4, .bool ok), (5, .i 0)]⟩, H3⟩ ?_
  refine W_ret ?_
  have hok : leqL d a1.Most (N' + 1) = ok := by
    rw [Bool.eq_iff_iff, leqL_iff, zk]
    exact ⟨fun k a b ha hb _ => k a b ha hb, fun k a b ha hb => k a b ha hb (by omega)⟩
  dsimp only
  rw [hok]
  exact Fin_free (l := [.bool ok, .i 0]) (by kernel_rfl) (by kernel_rfl) rfl
end G11

namespace G11
open Go hiding Obj mark
open Go.Pl Go.Am Go.Am.As
set_option linter.unusedVariables false
set_option maxHeartbeats 1000000

end G11

namespace G11
open Go hiding Obj mark
open Go.Pl Go.Am Go.Am.As
set_option linter.unusedVariables false
set_option maxHeartbeats 1000000

end G11
