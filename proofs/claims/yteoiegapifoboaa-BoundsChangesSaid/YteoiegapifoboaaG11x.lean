/- The code of bounds computes its models. No condition. -/
import Derived.Test.YteoiegapifoboaaG11p0
import Derived.Test.YteoiegapifoboaaG11h
import Derived.Test.YteoiegapifoboaaAmP2
namespace G11
open Go hiding Obj mark
open Go.Pl Go.Am Go.Am.As
set_option linter.unusedVariables false

theorem W_lp {E : Env} {hp : Nat → Bool} {b : Nat} {N : ST → Prop} {X : Nat → ST → Prop} {R : ST → Prop} {s : ST} {p : RC} (I : ST → Prop) (m : ST → Nat) (h0 : I s) (h : ∀ s, I s → W E hp p b (fun s' => I s' ∧ m s' < m s) X R s) : W E hp (.loop p) b N X R s :=
  WP_loop I m h0 (fun s hs => WP.mono (h s hs) (fun e s' q => by cases e <;> exact q))

theorem W_call {f na nt : Nat} {rs : List (Sum Nat (Nat × Nat × Bool))} {body : RC} {xs : List AV} {H : List Obj} {K : AV → List Obj → Prop} (hfn : E0.fns f = some ⟨na, nt, rs, body⟩) (hf : hp f = true ∨ snaps H xs = none) (hn : xs.length = na) (hm : na ≤ nt)
    (h : W E0 hp body H.length (fun s' => ∃ l, resultsT rs s' = some l ∧ K (oneOf l) s'.H) (fun _ _ => False) (fun s' => ∃ l, resultsT rs s' = some l ∧ K (oneOf l) s'.H) ⟨⟨nt, T.puts xs 0⟩, H⟩) : WC E0 hp false f xs H K :=
  WC_inl hfn hf hn hm (WP.mono h (fun e s' q => by cases e <;> exact q))

/-- a call on the memory -/
theorem O_wc {f : Nat} {args : List RX} {xs : List AV} {d : Option Nat} {g : Option (Nat × Bool)} {os : List ROp} {t : T} {H : List Obj} {K : T → List Obj → Prop} (hw : wantT t g = some true) (ha : args.map (evT E0.glob t) = xs)
    (h : WC E0 hp false f xs H (fun v H' => WO E0 hp false os (putD t d v) H' K)) : WO E0 hp false (⟨d, g, .call f args⟩ :: os) t H K := by
  subst ha
  exact (WO_do hw).2 (WO_call.2 h)
theorem O_wcv {f : Nat} {cap : List AV} {x : RX} {args : List RX} {xs : List AV} {d : Option Nat} {g : Option (Nat × Bool)} {os : List ROp} {t : T} {H : List Obj} {K : T → List Obj → Prop} (hw : wantT t g = some true) (hx : evT E0.glob t x = .fn f cap) (ha : args.map (evT E0.glob t) ++ cap = xs)
    (h : WC E0 hp false f xs H (fun v H' => WO E0 hp false os (putD t d v) H' K)) : WO E0 hp false (⟨d, g, .callv x args⟩ :: os) t H K := by
  subst ha
  exact (WO_do hw).2 ((WO_callv hx).2 h)

/-- a truncation that has no effect -/
def NoT (b : Nat) (H : List Obj) : Prop := (Nat.blt b H.length && objsBel b (H.take b)) = false
theorem Gh_noT {b n : Nat} {gs : List GA} {s : ST} {N : ST → Prop} (h : NoT (b + n) s.H) (k : Gh b gs s N) : Gh b (.trunc n :: gs) s N := by
  refine Gh_one (s1 := s) ?_ k
  have hc : (Nat.blt (b + n) s.H.length && (T.bels (b + n) s.tmps && objsBel (b + n) (s.H.take (b + n)))) = false := by
    unfold NoT at h
    cases h1 : Nat.blt (b + n) s.H.length
    · rfl
    · rw [h1, Bool.true_and] at h
      rw [h, Bool.and_false]; rfl
  simp only [ghost1T, hc, Bool.false_eq_true, if_false]
theorem Gh_tr {b n : Nat} {gs : List GA} {s : ST} {N : ST → Prop} (P : List Obj → Prop) (h0 : P s.H) (h : NoT (b + n) s.H ∨ P (s.H.take (b + n))) (k : ∀ H', P H' → Gh b gs ⟨s.tmps, H'⟩ N) : Gh b (.trunc n :: gs) s N := by
  rcases h with h | h
  · exact Gh_noT h (k _ h0)
  cases hc : (Nat.blt (b + n) s.H.length && (T.bels (b + n) s.tmps && objsBel (b + n) (s.H.take (b + n)))) with
  | true =>
    refine Gh_one (s1 := ⟨s.tmps, s.H.take (b + n)⟩) ?_ (k _ h)
    simp only [ghost1T, hc, if_true]
  | false =>
    refine Gh_one (s1 := ⟨s.tmps, s.H⟩) ?_ (k _ h0)
    simp only [ghost1T, hc, Bool.false_eq_true, if_false]
variable {E : Env} {hpx : Nat → Bool} {dr : Bool} {os : List ROp} {t : T} {H : List Obj} {K : T → List Obj → Prop} {g : Option (Nat × Bool)} {d : Option Nat}

/-- operations that leave the memory as it is -/
theorem O_q (k : Nat) (hk : WO E hpx dr (os.drop k) (runS E.glob k os t H).1 H K) (h : okS E.glob k os t H = true := by kernel_rfl) (e : (runS E.glob k os t H).2 = H := by kernel_rfl) : WO E hpx dr os t H K := by
  refine O_p k ?_ h
  rw [e]; exact hk
/-- a cell is read -/
theorem O_ldc {id ext e o sz : Nat} {fl : Fl} {es : List (List AV)} {cs : List AV} {v : AV} {x : RX} (hx : evT E.glob t x = .pown id ext e o) (hH : H[id]? = some (.live fl sz es)) (hl : ext = es.length) (he : es[e]? = some cs) (hc : cs[o]? = some v)
    (hk : WO E hpx dr os (putD t d v) H K) (hw : wantT t g = some true := by kernel_rfl) : WO E hpx dr (⟨d, g, .load 1 false x⟩ :: os) t H K := by
  refine O_op1 (v := v) (H1 := H) (fun hc => nomatch (show Kind.read = Kind.call from hc)) hw ?_ hk
  show (match loadAt H 1 false (evT E.glob t x) with | some v => some (v, H) | none => none) = _
  rw [hx]
  simp only [loadAt, getLive, hH, hl, if_true, he, Am.part, Bool.false_eq_true, if_false, hc]

def sqc (m : Nat → Nat → Int) : List AV := (List.range 169).map fun x => .i (m (x / 13) (x % 13))
abbrev sqo (n : Nat) (m : Nat → Nat → Int) : Obj := .lv 170 (.i n :: sqc m)
def up2 (m : Nat → Nat → Int) (i j : Nat) (v : Int) : Nat → Nat → Int := fun a b => if a = i ∧ b = j then v else m a b
theorem up2_eq {m : Nat → Nat → Int} {i j : Nat} {v : Int} : up2 m i j v i j = v := by simp [up2]
theorem up2_ne {m : Nat → Nat → Int} {i j a b : Nat} {v : Int} (h : ¬ (a = i ∧ b = j)) : up2 m i j v a b = m a b := by simp [up2, h]

theorem sqc_get {m : Nat → Nat → Int} {i j : Nat} (hi : i < 13) (hj : j < 13) : (sqc m)[i * 13 + j]? = some (.i (m i j)) := by
  unfold sqc
  rw [List.getElem?_map, List.getElem?_range (by omega)]
  show some (AV.i (m ((i * 13 + j) / 13) ((i * 13 + j) % 13))) = _
  rw [show (i * 13 + j) / 13 = i by omega, show (i * 13 + j) % 13 = j by omega]
theorem sqc_set {m : Nat → Nat → Int} {i j : Nat} {v : Int} (hi : i < 13) (hj : j < 13) : (sqc m).set (i * 13 + j) (.i v) = sqc (up2 m i j v) := by
  unfold sqc
  refine List.ext_getElem? (fun k => ?_)
  by_cases hk : k < 169
  · rw [List.getElem?_set, List.getElem?_map, List.getElem?_map, List.getElem?_range hk]
    by_cases e : i * 13 + j = k
    · subst e
      rw [if_pos rfl, if_pos (by simp; omega)]
      show _ = some (AV.i (up2 m i j v ((i * 13 + j) / 13) ((i * 13 + j) % 13)))
      rw [show (i * 13 + j) / 13 = i by omega, show (i * 13 + j) % 13 = j by omega, up2_eq]
    · rw [if_neg e]
      show some (AV.i (m (k / 13) (k % 13))) = some (AV.i (up2 m i j v (k / 13) (k % 13)))
      rw [up2_ne (by omega)]
  · rw [List.getElem?_eq_none (by simp; omega), List.getElem?_eq_none (by simp; omega)]
theorem sqc_bel (m : Nat → Nat → Int) : AV.bels 0 (sqc m) = true := by
  unfold sqc
  exact bels_arr (fun x => rfl) _

/-- an element of an array in memory -/
theorem O_ia {len sz id o i : Nat} {x ix : RX} (hx : evT E.glob t x = .po id o) (hi : evT E.glob t ix = .i (i : Int)) (h : i < len) (hk : WO E hpx dr os (putD t d (.po id (o + i * sz))) H K) (hw : wantT t g = some true := by kernel_rfl) :
    WO E hpx dr (⟨d, g, .iadA len sz x ix⟩ :: os) t H K := by
  refine WO_step (v := .po id (o + i * sz)) (H1 := H) (by simp [RO.kind]) hw ?_ hk
  simp only [ev1, evalOpe, RO.kind, evalPe, hx, hi, Am.iadA, Am.fad]
  rw [if_pos (by omega)]
  rfl
theorem O_sqn {id n : Nat} {m : Nat → Nat → Int} {x : RX} (hH : H[id]? = some (sqo n m)) (hk : WO E hpx dr os (putD t d (.i (n : Int))) H K) (hx : evT E.glob t x = .po id 0 := by kernel_rfl) (hw : wantT t g = some true := by kernel_rfl) :
    WO E hpx dr (⟨d, g, .load 1 false x⟩ :: os) t H K :=
  O_ldc (es := [.i n :: sqc m]) (cs := .i n :: sqc m) hx hH rfl rfl rfl hk hw
theorem O_sqld {id n i j d1 d2 d3 : Nat} {m : Nat → Nat → Int} {x ix iy : RX} (hi : i < 13) (hj : j < 13) (hH : H[id]? = some (sqo n m))
    (hk : WO E hpx dr os (((t.put d1 (.po id (1 + i * 13))).put d2 (.po id (1 + i * 13 + j * 1))).put d3 (.i (m i j))) H K)
    (hx : evT E.glob t x = .po id 1 := by kernel_rfl) (hix : evT E.glob t ix = .i (i : Int) := by kernel_rfl) (hiy : evT E.glob (t.put d1 (.po id (1 + i * 13))) iy = .i (j : Int) := by kernel_rfl)
    (e1 : evT E.glob (t.put d1 (.po id (1 + i * 13))) (.t d1) = .po id (1 + i * 13) := by kernel_rfl) (e2 : evT E.glob ((t.put d1 (.po id (1 + i * 13))).put d2 (.po id (1 + i * 13 + j * 1))) (.t d2) = .po id (1 + i * 13 + j * 1) := by kernel_rfl)
    (w1 : wantT t g = some true := by kernel_rfl) (w2 : wantT (t.put d1 (.po id (1 + i * 13))) g = some true := by kernel_rfl) (w3 : wantT ((t.put d1 (.po id (1 + i * 13))).put d2 (.po id (1 + i * 13 + j * 1))) g = some true := by kernel_rfl) :
    WO E hpx dr (⟨some d1, g, .iadA 13 13 x ix⟩ :: ⟨some d2, g, .iadA 13 1 (.t d1) iy⟩ :: ⟨some d3, g, .load 1 false (.t d2)⟩ :: os) t H K := by
  refine O_ia hx hix hi ?_ w1
  refine O_ia e1 hiy hj ?_ w2
  refine O_ldc e2 hH rfl rfl (v := .i (m i j)) ?_ hk w3
  rw [show 1 + i * 13 + j * 1 = (i * 13 + j) + 1 by omega, List.getElem?_cons_succ]
  exact sqc_get hi hj
theorem O_sqst {id n i j d1 d2 : Nat} {v : Int} {m : Nat → Nat → Int} {x ix iy y : RX} (hi : i < 13) (hj : j < 13) (hH : H[id]? = some (sqo n m))
    (hk : WO E hpx dr os ((t.put d1 (.po id (1 + i * 13))).put d2 (.po id (1 + i * 13 + j * 1))) (H.set id (sqo n (up2 m i j v))) K)
    (hx : evT E.glob t x = .po id 1 := by kernel_rfl) (hix : evT E.glob t ix = .i (i : Int) := by kernel_rfl) (hiy : evT E.glob (t.put d1 (.po id (1 + i * 13))) iy = .i (j : Int) := by kernel_rfl)
    (e1 : evT E.glob (t.put d1 (.po id (1 + i * 13))) (.t d1) = .po id (1 + i * 13) := by kernel_rfl) (e2 : evT E.glob ((t.put d1 (.po id (1 + i * 13))).put d2 (.po id (1 + i * 13 + j * 1))) (.t d2) = .po id (1 + i * 13 + j * 1) := by kernel_rfl)
    (e3 : evT E.glob ((t.put d1 (.po id (1 + i * 13))).put d2 (.po id (1 + i * 13 + j * 1))) y = .i v := by kernel_rfl) :
    WO E hpx dr (⟨some d1, none, .iadA 13 13 x ix⟩ :: ⟨some d2, none, .iadA 13 1 (.t d1) iy⟩ :: ⟨none, none, .store 1 (.t d2) y⟩ :: os) t H K := by
  refine O_ia hx hix hi ?_ rfl
  refine O_ia e1 hiy hj ?_ rfl
  refine WO_step (v := .tup []) (H1 := H.set id (sqo n (up2 m i j v))) (by simp [RO.kind]) rfl ?_ hk
  have e2' : evT E.glob (putD (putD t (some d1) (.po id (1 + i * 13))) (some d2) (.po id (1 + i * 13 + j * 1))) (.t d2) = .po id (1 + i * 13 + j * 1) := e2
  have e3' : evT E.glob (putD (putD t (some d1) (.po id (1 + i * 13))) (some d2) (.po id (1 + i * 13 + j * 1))) y = .i v := e3
  simp only [ev1, evalOpe, RO.kind, evalWe, e2', e3']
  simp only [storeAt, getLive, hH, nlAt, AV.cells, List.length_singleton]
  rw [if_pos ⟨trivial, trivial, by omega, rfl, rfl⟩]
  simp only [List.getElem?_cons_zero, List.set_cons_zero, putAt]
  rw [show 1 + i * 13 + j * 1 = (i * 13 + j) + 1 by omega, List.set_cons_succ, sqc_set hi hj]

theorem sq_self {id : Nat} {o o' : Obj} (h : H[id]? = some o) : (H.set id o')[id]? = some o' := by
  obtain ⟨hl, _⟩ := List.getElem?_eq_some_iff.1 h
  exact List.getElem?_set_self hl

/-- a function is called for all pairs -/
theorem each_eq {n id f : Nat} {cap : List AV} {H : List Obj} {K : AV → List Obj → Prop} (I : Nat → Nat → List Obj → Prop) (hn : n ≤ 13)
    (hs : ∀ i j H', I i j H' → ∃ m, H'[id]? = some (sqo n m)) (hT : ∀ i j H', I i j H' → NoT H.length H' ∨ I i j (H'.take H.length)) (h0 : I 0 0 H)
    (step : ∀ i j H' K', i < n → j < n → I i j H' → (∀ H'', I i (j + 1) H'' → K' (.tup []) H'') → WC E0 hp false f (.i (i : Int) :: .i (j : Int) :: cap) H' K')
    (next : ∀ i H', i < n → I i n H' → I (i + 1) 0 H') (hk : ∀ H', I n 0 H' → K (.tup []) H') : WC E0 hp false 56 [.po id 0, .fn f cap] H K := by
  refine W_call fn56 (.inr (snaps_none 0 rfl rfl)) rfl (by decide) ?_
  obtain ⟨m0, hm0⟩ := hs 0 0 H h0
  refine W_seq ?_
  refine W_gh ?_
  refine W_reg ?_
  refine O_p 3 ?_
  refine O_sqn hm0 ?_
  refine O_p 1 ?_
  refine O_nil ?_
  refine Gh_e ⟨⟨26, [(0, .po id 0), (1, .fn f cap), (9, .i (n : Int)), (10, .i ((0 : Nat) : Int))]⟩, H⟩ ?_
  refine W_gh (W_block ?_)
  refine W_lp (fun s' => ∃ (i : Nat) (H' : List Obj), s' = ⟨⟨26, [(0, .po id 0), (1, .fn f cap), (9, .i (n : Int)), (10, .i (i : Int))]⟩, H'⟩ ∧ i ≤ n ∧ I i 0 H') (fun s' => match s'.tmps.get 10 with | .int _ k => n - k.toNat | _ => 0) ⟨0, H, rfl, by omega, h0⟩ ?_
  rintro s' ⟨i, H1, rfl, hi, h1⟩
  refine W_gh ?_
  refine W_seq ?_
  refine W_reg ?_
  refine O_p 1 ?_
  refine O_nil ?_
  refine W_seq ?_
  refine W_gh ?_
  refine W_cond (c := decide ((i : Int) < (n : Int))) (by kernel_rfl) (fun c => ?_) (fun c => ?_)
  · have c3 : i < n := by have := of_decide_eq_true c; omega
    refine W_skip ?_
    refine Gh_e ⟨⟨26, [(0, .po id 0), (1, .fn f cap), (9, .i (n : Int)), (10, .i (i : Int))]⟩, H1⟩ ?_
    refine W_seq ?_
    refine W_gh ?_
    refine W_block ?_
    refine W_seq ?_
    refine W_gh ?_
    refine W_reg ?_
    refine O_p 2 ?_
    refine O_nil ?_
    refine Gh_e ⟨⟨26, [(0, .po id 0), (1, .fn f cap), (4, .i (i : Int)), (9, .i (n : Int)), (10, .i (i : Int))]⟩, H1⟩ ?_
    refine W_seq ?_
    refine W_gh ?_
    refine W_reg ?_
    refine O_p 3 ?_
    obtain ⟨m1, hm1⟩ := hs i 0 H1 h1
    refine O_sqn hm1 ?_
    refine O_p 1 ?_
    refine O_nil ?_
    refine Gh_e ⟨⟨26, [(0, .po id 0), (1, .fn f cap), (4, .i (i : Int)), (9, .i (n : Int)), (10, .i (i : Int)), (16, .i (n : Int)), (17, .i ((0 : Nat) : Int))]⟩, H1⟩ ?_
    refine W_gh (W_block ?_)
    refine W_lp (fun s' => ∃ (j : Nat) (H' : List Obj), s' = ⟨⟨26, [(0, .po id 0), (1, .fn f cap), (4, .i (i : Int)), (9, .i (n : Int)), (10, .i (i : Int)), (16, .i (n : Int)), (17, .i (j : Int))]⟩, H'⟩ ∧ j ≤ n ∧ I i j H') (fun s' => match s'.tmps.get 17 with | .int _ k => n - k.toNat | _ => 0) ⟨0, H1, rfl, by omega, h1⟩ ?_
    rintro s' ⟨j, H2, rfl, hj, h2⟩
    refine W_gh ?_
    refine W_seq ?_
    refine W_reg ?_
    refine O_p 1 ?_
    refine O_nil ?_
    refine W_seq ?_
    refine W_gh ?_
    refine W_cond (c := decide ((j : Int) < (n : Int))) (by kernel_rfl) (fun c => ?_) (fun c => ?_)
    · have c4 : j < n := by have := of_decide_eq_true c; omega
      refine W_skip ?_
      refine Gh_e ⟨⟨26, [(0, .po id 0), (1, .fn f cap), (4, .i (i : Int)), (9, .i (n : Int)), (10, .i (i : Int)), (16, .i (n : Int)), (17, .i (j : Int))]⟩, H2⟩ ?_
      refine W_seq ?_
      refine W_gh ?_
      refine W_block ?_
      refine W_seq ?_
      refine W_gh ?_
      refine W_reg ?_
      refine O_p 2 ?_
      refine O_nil ?_
      refine Gh_e ⟨⟨26, [(0, .po id 0), (1, .fn f cap), (4, .i (i : Int)), (5, .i (j : Int)), (9, .i (n : Int)), (10, .i (i : Int)), (16, .i (n : Int)), (17, .i (j : Int))]⟩, H2⟩ ?_
      refine W_gh ?_
      refine W_reg ?_
      refine O_p 3 ?_
      refine O_wcv (f := f) (cap := cap) (xs := .i (i : Int) :: .i (j : Int) :: cap) (by kernel_rfl) (by kernel_rfl) (by rfl) ?_
      refine step i j H2 _ c3 c4 h2 (fun H3 h3 => ?_)
      refine O_nil ?_
      refine Gh_one (s1 := ⟨⟨26, [(0, .po id 0), (1, .fn f cap), (4, .i (i : Int)), (9, .i (n : Int)), (10, .i (i : Int)), (16, .i (n : Int)), (17, .i (j : Int))]⟩, H3⟩) (by kernel_rfl) ?_
      refine Gh_tr (I i (j + 1)) h3 (hT _ _ _ h3) (fun H3 h3 => ?_)
      refine Gh_nil ?_
      refine Gh_one (s1 := ⟨⟨26, [(0, .po id 0), (1, .fn f cap), (4, .i (i : Int)), (9, .i (n : Int)), (10, .i (i : Int)), (16, .i (n : Int)), (17, .i (j : Int))]⟩, H3⟩) (by kernel_rfl) ?_
      refine Gh_tr (I i (j + 1)) h3 (hT _ _ _ h3) (fun H3 h3 => ?_)
      refine Gh_nil ?_
      refine W_gh ?_
      refine W_reg ?_
      refine O_p 2 ?_
      refine O_nil ?_
      refine Gh_e ⟨⟨26, [(0, .po id 0), (1, .fn f cap), (4, .i (i : Int)), (9, .i (n : Int)), (10, .i (i : Int)), (16, .i (n : Int)), (17, .i (addI .i64 (j : Int) 1))]⟩, H3⟩ ?_
      rw [addI_nat (k := j) (by omega)]
      refine Gh_one (s1 := ⟨⟨26, [(0, .po id 0), (1, .fn f cap), (4, .i (i : Int)), (9, .i (n : Int)), (10, .i (i : Int)), (16, .i (n : Int)), (17, .i ((j + 1 : Nat) : Int))]⟩, H3⟩) (by kernel_rfl) ?_
      refine Gh_tr (I i (j + 1)) h3 (hT _ _ _ h3) (fun H3 h3 => ?_)
      refine Gh_nil ?_
      refine ⟨⟨j + 1, H3, rfl, by omega, h3⟩, ?_⟩
      show n - (((j + 1 : Nat) : Int)).toNat < n - ((j : Int)).toNat
      omega
    · have c4 := of_decide_eq_false c
      obtain rfl : j = n := by omega
      refine W_exit ?_
      refine X_hit ?_
      refine Gh_one (s1 := ⟨⟨26, [(0, .po id 0), (1, .fn f cap), (9, .i (j : Int)), (10, .i (i : Int))]⟩, H2⟩) (by kernel_rfl) ?_
      refine Gh_tr (I i j) h2 (hT _ _ _ h2) (fun H2 h2 => ?_)
      refine Gh_nil ?_
      refine Gh_one (s1 := ⟨⟨26, [(0, .po id 0), (1, .fn f cap), (9, .i (j : Int)), (10, .i (i : Int))]⟩, H2⟩) (by kernel_rfl) ?_
      refine Gh_tr (I i j) h2 (hT _ _ _ h2) (fun H2 h2 => ?_)
      refine Gh_nil ?_
      refine W_gh ?_
      refine W_reg ?_
      refine O_p 2 ?_
      refine O_nil ?_
      refine Gh_e ⟨⟨26, [(0, .po id 0), (1, .fn f cap), (9, .i (j : Int)), (10, .i (addI .i64 (i : Int) 1))]⟩, H2⟩ ?_
      rw [addI_nat (k := i) (by omega)]
      refine Gh_one (s1 := ⟨⟨26, [(0, .po id 0), (1, .fn f cap), (9, .i (j : Int)), (10, .i ((i + 1 : Nat) : Int))]⟩, H2⟩) (by kernel_rfl) ?_
      refine Gh_tr (I i j) h2 (hT _ _ _ h2) (fun H2 h2 => ?_)
      refine Gh_nil ?_
      refine ⟨⟨i + 1, H2, rfl, by omega, next _ _ c3 h2⟩, ?_⟩
      show j - (((i + 1 : Nat) : Int)).toNat < j - ((i : Int)).toNat
      omega
  · have c4 := of_decide_eq_false c
    obtain rfl : i = n := by omega
    refine W_exit ?_
    refine X_hit ?_
    refine Gh_one (s1 := ⟨⟨26, []⟩, H1⟩) (by kernel_rfl) ?_
    refine Gh_tr (I i 0) h1 (hT _ _ _ h1) (fun H1 h1 => ?_)
    refine Gh_nil ?_
    exact ⟨[], rfl, hk _ h1⟩

/-- memory that is as before below a place -/
def Fr (L : Nat) (H H' : List Obj) : Prop := ∀ a, a < L → H'[a]? = H[a]?
theorem Fr.app {H R : List Obj} : Fr H.length H (H ++ R) := fun a ha => List.getElem?_append_left ha
theorem Fr.trans {L M : Nat} {H H1 H2 : List Obj} (h : Fr L H H1) (g : Fr M H1 H2) (hm : L ≤ M) : Fr L H H2 := fun a ha => (g a (by omega)).trans (h a ha)
theorem Fr.take {L k : Nat} {H H' : List Obj} (h : Fr L H H') (hk : L ≤ k) : Fr L H (H'.take k) := fun a ha => by rw [List.getElem?_take_of_lt (by omega)]; exact h a ha
theorem Fr.set {L id : Nat} {o : Obj} {H H' : List Obj} (h : Fr L H H') (hi : L ≤ id) : Fr L H (H'.set id o) := fun a ha => by rw [List.getElem?_set_ne (by omega)]; exact h a ha
theorem get_lt {H : List Obj} {a : Nat} {o : Obj} (h : H[a]? = some o) : a < H.length := (List.getElem?_eq_some_iff.1 h).1
theorem get_app {H R : List Obj} {a : Nat} {o : Obj} (h : H[a]? = some o) : (H ++ R)[a]? = some o := by rw [List.getElem?_append_left (get_lt h)]; exact h
theorem get_take {H : List Obj} {a k : Nat} {o : Obj} (h : H[a]? = some o) (hk : a < k) : (H.take k)[a]? = some o := by rw [List.getElem?_take_of_lt hk]; exact h
theorem get_ne {H : List Obj} {a id : Nat} {o o' : Obj} (h : H[a]? = some o) (hk : a ≠ id) : (H.set id o')[a]? = some o := by rw [List.getElem?_set_ne (by omega)]; exact h
theorem get_end {H R : List Obj} (k : Nat) {o : Obj} (h : R[k]? = some o) : (H ++ R)[H.length + k]? = some o := by rw [List.getElem?_append_right (by omega), show H.length + k - H.length = k by omega]; exact h
theorem get_last {H : List Obj} {o : Obj} : (H ++ [o])[H.length]? = some o := get_end (R := [o]) 0 rfl

/-- a value is put into memory -/
theorem O_box {cs : List AV} {sz : Nat} {x : RX} (k : Nat) (H' : List Obj) (hx : (evT E.glob t x).cells = cs) (hl : cs.length = sz) (hk : WO E hpx dr os (putD t d (.po k 0)) H' K) (hn : H.length = k := by simp) (he : H ++ [.lv sz cs] = H' := by simp) (h1 : allOne cs = true := by kernel_rfl) (hw : wantT t g = some true := by kernel_rfl) :
    WO E hpx dr (⟨d, g, .box x⟩ :: os) t H K := by
  subst hl; subst hn; subst he
  refine WO_step (v := .po H.length 0) (H1 := H ++ [.lv cs.length cs]) (by simp [RO.kind]) hw ?_ hk
  simp only [ev1, evalOpe, RO.kind, evalWe, hx, h1, if_true]
  simp [putObj]
theorem O_alloc {z : List AV} {sz : Nat} (k : Nat) (H' : List Obj) (hl : z.length = sz) (hk : WO E hpx dr os (putD t d (.po k 0)) H' K) (hn : H.length = k := by simp) (he : H ++ [.lv sz z] = H' := by simp) (h1 : allOne z = true := by kernel_rfl) (hw : wantT t g = some true := by kernel_rfl) :
    WO E hpx dr (⟨d, g, .alloc z⟩ :: os) t H K := by
  subst hl; subst hn; subst he
  refine WO_step (v := .po H.length 0) (H1 := H ++ [.lv z.length z]) (by simp [RO.kind]) hw ?_ hk
  simp only [ev1, evalOpe, RO.kind, evalWe, h1, if_true]
  simp [putObj]
theorem O_st {id o n sz : Nat} {cs : List AV} {x y : RX} (xs cs' : List AV) (hH : H[id]? = some (.lv sz cs)) (hk : WO E hpx dr os (putD t d (.tup [])) (H.set id (.lv sz cs')) K) (hx : evT E.glob t x = .po id o := by kernel_rfl) (hy : (evT E.glob t y).cells = xs := by kernel_rfl)
    (hp : putAt cs o xs = cs' := by kernel_rfl) (hn : xs.length = n := by rfl) (ho : o + n ≤ sz := by decide) (h1 : allOne xs = true := by kernel_rfl) (hw : wantT t g = some true := by kernel_rfl) : WO E hpx dr (⟨d, g, .store n x y⟩ :: os) t H K := by
  refine WO_step (v := .tup []) (H1 := H.set id (.lv sz cs')) (by simp [RO.kind]) hw ?_ hk
  simp only [ev1, evalOpe, RO.kind, evalWe, hx, hy, storeAt, getLive, hH, nlAt, List.length_singleton]
  rw [if_pos ⟨trivial, hn, ho, h1, rfl⟩]
  simp only [List.getElem?_cons_zero, List.set_cons_zero, hp]
/-- cells of a box are read -/
theorem O_ldb {id o sz : Nat} {cs : List AV} {v : AV} {x : RX} (hH : H[id]? = some (.lv sz cs)) (hx : evT E.glob t x = .po id o) (hc : cs[o]? = some v) (hk : WO E hpx dr os (putD t d v) H K) (hw : wantT t g = some true := by kernel_rfl) :
    WO E hpx dr (⟨d, g, .load 1 false x⟩ :: os) t H K := O_ldc (es := [cs]) hx hH rfl rfl hc hk hw
theorem O_lda {id n sz : Nat} {cs : List AV} {x : RX} (hH : H[id]? = some (.lv sz cs)) (hx : evT E.glob t x = .po id 0) (hn : cs.length = n) (hk : WO E hpx dr os (putD t d (.agg cs)) H K) (hw : wantT t g = some true := by kernel_rfl) :
    WO E hpx dr (⟨d, g, .load n true x⟩ :: os) t H K := by
  refine O_op1 (v := .agg cs) (H1 := H) (fun hc => nomatch (show Kind.read = Kind.call from hc)) hw ?_ hk
  show (match loadAt H n true (evT E.glob t x) with | some v => some (v, H) | none => none) = _
  rw [hx]
  simp [loadAt, getLive, hH, Am.part, hn.symm]
/-- an element of what is only read -/
theorem O_rold {d1 d2 i : Nat} {es : List (List AV)} {v : AV} {x ix : RX} (hx : evT E.glob t x = .ro es) (he : es[i]? = some [v]) (hk : WO E hpx dr os ((t.put d1 (.pro [v])).put d2 v) H K)
    (hi : evT E.glob t ix = .i (i : Int) := by kernel_rfl) (e1 : evT E.glob (t.put d1 (.pro [v])) (.t d1) = .pro [v] := by kernel_rfl) (w1 : wantT t g = some true := by kernel_rfl) (w2 : wantT (t.put d1 (.pro [v])) g = some true := by kernel_rfl) :
    WO E hpx dr (⟨some d1, g, .iadS 1 x ix⟩ :: ⟨some d2, g, .load 1 false (.t d1)⟩ :: os) t H K := by
  refine WO_step (v := .pro [v]) (H1 := H) (by simp [RO.kind]) w1 ?_ ?_
  · simp only [ev1, evalOpe, RO.kind, evalRe, hx, hi, iadS]
    rw [if_pos (by omega), Int.toNat_natCast, he]; rfl
  · refine WO_step (v := v) (H1 := H) (by simp [RO.kind]) w2 ?_ hk
    have e1' : evT E.glob (putD t (some d1) (.pro [v])) (.t d1) = .pro [v] := e1
    simp only [ev1, evalOpe, RO.kind, evalRe, e1', loadAt, Am.part]
    simp

theorem Sq.row {n : Nat} {l : List (List Int)} (h : Sq n l) {i : Nat} (hi : i < n) : (l.map (cL cI_i64))[i]? = some [.ro ((l.getD i []).map cI_i64)] := by
  have hi' : i < l.length := by rw [h.1]; exact hi
  rw [List.getElem?_map, List.getElem?_eq_getElem hi']
  simp [cL, List.getD_eq_getElem?_getD, hi']
theorem Sq.el {n : Nat} {l : List (List Int)} (h : Sq n l) {i j : Nat} (hi : i < n) (hj : j < n) : ((l.getD i []).map cI_i64)[j]? = some [.i (ent l i j)] := by
  have hi' : i < l.length := by rw [h.1]; exact hi
  have hr : (l.getD i []).length = n := by
    rw [List.getD_eq_getElem?_getD, List.getElem?_eq_getElem hi']
    exact h.2 _ (List.getElem_mem _)
  have hj' : j < (l.getD i []).length := by omega
  rw [List.getElem?_map, List.getElem?_eq_getElem hj']
  simp [cI_i64, ent, List.getD_eq_getElem?_getD, hj'] <;> simp [List.getD_eq_getElem?_getD] at hj' ⊢ <;> simp [hj']
end G11

namespace G11
open Go hiding Obj mark
open Go.Pl Go.Am Go.Am.As
set_option linter.unusedVariables false

def low (m : Nat → Nat → Int) (i j : Nat) (v : Int) : Nat → Nat → Int := if m i j = -1099511627776 ∨ v < m i j then up2 m i j v else m

theorem lower_eq {id n i j : Nat} {v : Int} {m : Nat → Nat → Int} {H : List Obj} {K : AV → List Obj → Prop} (hi : i < 13) (hj : j < 13) (hH : H[id]? = some (sqo n m)) (hk : K (.tup []) (H.set id (sqo n (low m i j v)))) :
    WC E0 hp false 71 [.po id 0, .i (i : Int), .i (j : Int), .i v] H K := by
  refine W_call fn71 (.inr (snaps_none 0 rfl rfl)) rfl (by decide) ?_
  have hfin : ∀ c : Bool, (c = true ↔ (m i j = -1099511627776 ∨ v < m i j)) → W E0 hp (.gh [] (.cond (.t 28) (.gh [] (.reg [L11.o 29 (.mov (.t 0)), L11.o 30 (.mov (.t 1)), L11.o 31 (.mov (.t 2)), L11.o 32 (.mov (.t 3)), L11.o 33 (.nchk (.t 29)), L11.o 34 (.fad 1 (.t 33)), L11.o 35 (.iadA 13 13 (.t 34) (.t 30)), L11.o 36 (.iadA 13 1 (.t 35) (.t 31)), L11.u (.store 1 (.t 36) (.t 32))]) [.kill [0, 1, 2, 3, 29, 30, 31, 32, 33, 34, 35, 36]]) .skip) [.kill [0, 1, 2, 3, 28]]) H.length (fun s' => ∃ l, resultsT [] s' = some l ∧ K (oneOf l) s'.H) (fun _ _ => False) (fun s' => ∃ l, resultsT [] s' = some l ∧ K (oneOf l) s'.H)
      ⟨⟨37, [(0, .po id 0), (1, .i (i : Int)), (2, .i (j : Int)), (3, .i v), (28, .bool c)]⟩, H⟩ := by
    intro c hc
    refine W_gh ?_
    refine W_cond (c := c) (by kernel_rfl) (fun c1 => ?_) (fun c1 => ?_)
    · subst c1
      refine W_gh ?_
      refine W_reg ?_
      refine O_q 6 ?_
      refine O_sqst (v := v) hi hj hH ?_
      refine O_nil ?_
      refine Gh_e ⟨⟨37, [(28, .bool true)]⟩, H.set id (sqo n (up2 m i j v))⟩ ?_
      refine Gh_e ⟨⟨37, []⟩, H.set id (sqo n (up2 m i j v))⟩ ?_
      refine ⟨[], rfl, ?_⟩
      have : low m i j v = up2 m i j v := by unfold low; rw [if_pos (hc.1 rfl)]
      rw [this] at hk; exact hk
    · subst c1
      refine W_skip ?_
      refine Gh_e ⟨⟨37, []⟩, H⟩ ?_
      refine ⟨[], rfl, ?_⟩
      have : low m i j v = m := by unfold low; rw [if_neg (fun h => by simpa using hc.2 h)]
      rw [this] at hk
      have e : H.set id (sqo n m) = H := by
        obtain ⟨hl, he⟩ := List.getElem?_eq_some_iff.1 hH
        rw [← he]; simp
      rw [e] at hk; exact hk
  refine W_seq ?_
  refine W_gh ?_
  refine W_reg ?_
  refine O_q 5 ?_
  refine O_sqld hi hj hH ?_
  refine O_q 2 ?_
  refine O_fork (n := 17) (m i j == -1099511627776) (by kernel_rfl) (fun c => ?_) (fun c => ?_)
  · refine O_q 11 ?_
    refine O_nil ?_
    refine Gh_e ⟨⟨37, [(0, .po id 0), (1, .i (i : Int)), (2, .i (j : Int)), (3, .i v), (28, .bool true)]⟩, H⟩ ?_
    exact hfin true ⟨fun _ => .inl (eq_of_beq c), fun _ => rfl⟩
  · refine O_q 6 ?_
    refine O_sqld hi hj hH ?_
    refine O_q 2 ?_
    refine O_nil ?_
    refine Gh_e ⟨⟨37, [(0, .po id 0), (1, .i (i : Int)), (2, .i (j : Int)), (3, .i v), (28, .bool (decide (v < m i j)))]⟩, H⟩ ?_
    exact hfin (decide (v < m i j)) ⟨fun h => .inr (of_decide_eq_true h), fun h => by
      rcases h with h | h
      · exact ((beq_eq_false_iff_ne.1 c) h).elim
      · exact decide_eq_true h⟩

/-- the square of bounds -/
theorem of_eq {N : Nat} {l : List (List Int)} {H : List Obj} {K : AV → List Obj → Prop} (hn : N + 1 ≤ 13) (hl : Sq (N + 1) l)
    (hk : ∀ q H' m, H.length ≤ q → H'[q]? = some (sqo (N + 1) m) → (∀ i j, i < N + 1 → j < N + 1 → m i j = ent l i j) → Fr H.length H H' → K (.po q 0) H') : WC E0 hp false 70 [.agg [.i (N : Int), .ro (l.map (cL cI_i64))]] H K := by
  refine W_call fn70 (.inl rfl) rfl (by decide) ?_
  refine W_seq ?_
  refine W_gh ?_
  refine W_reg ?_
  refine O_box (cs := [.i (N : Int), .ro (l.map (cL cI_i64))]) (sz := 2) H.length (H ++ [.lv 2 [.i (N : Int), .ro (l.map (cL cI_i64))]]) (by kernel_rfl) rfl ?_
  refine O_q 1 ?_
  refine O_nil ?_
  refine Gh_e ⟨⟨13, [(1, .po H.length 0)]⟩, H ++ [.lv 2 [.i (N : Int), .ro (l.map (cL cI_i64))]]⟩ ?_
  refine W_seq ?_
  refine W_gh ?_
  refine W_reg ?_
  refine O_q 1 ?_
  refine O_ldb (o := 0) (v := .i (N : Int)) get_last (by kernel_rfl) rfl ?_
  refine O_q 2 ?_
  refine O_box (cs := .i ((N + 1 : Nat) : Int) :: sqc (fun _ _ => 0)) (sz := 170) (H.length + 1) (H ++ [.lv 2 [.i (N : Int), .ro (l.map (cL cI_i64))], sqo (N + 1) fun _ _ => 0]) (by rw [← addI_nat (k := N) (by omega)]; kernel_rfl) (by simp [sqc]) ?_ (by simp) (by rw [List.append_assoc]; rfl)
  refine O_alloc (sz := 1) (H.length + 2) (H ++ [.lv 2 [.i (N : Int), .ro (l.map (cL cI_i64))], sqo (N + 1) fun _ _ => 0, .lv 1 [.nilp]]) rfl ?_
  refine O_st (o := 0) (sz := 1) (cs := [.nilp]) [.po (H.length + 1) 0] [.po (H.length + 1) 0] (id := H.length + 2) (get_end 2 rfl) ?_
  refine O_nil ?_
  refine Gh_e ⟨⟨13, [(1, .po H.length 0), (3, .po (H.length + 2) 0)]⟩, (H ++ [.lv 2 [.i (N : Int), .ro (l.map (cL cI_i64))], sqo (N + 1) fun _ _ => 0, .lv 1 [.nilp]]).set (H.length + 2) (.lv 1 [.po (H.length + 1) 0])⟩ ?_
  have eH : (H ++ [Obj.lv 2 [.i (N : Int), .ro (l.map (cL cI_i64))], sqo (N + 1) fun _ _ => 0, .lv 1 [.nilp]]).set (H.length + 2) (.lv 1 [.po (H.length + 1) 0]) =
      H ++ [.lv 2 [.i (N : Int), .ro (l.map (cL cI_i64))], sqo (N + 1) fun _ _ => 0, .lv 1 [.po (H.length + 1) 0]] := by
    simp
  rw [eH]
  have hb : (H ++ [Obj.lv 2 [.i (N : Int), .ro (l.map (cL cI_i64))], sqo (N + 1) fun _ _ => 0, .lv 1 [.po (H.length + 1) 0]])[H.length]? = some (.lv 2 [.i (N : Int), .ro (l.map (cL cI_i64))]) := get_end 0 rfl
  have hs : (H ++ [Obj.lv 2 [.i (N : Int), .ro (l.map (cL cI_i64))], sqo (N + 1) fun _ _ => 0, .lv 1 [.po (H.length + 1) 0]])[H.length + 1]? = some (sqo (N + 1) fun _ _ => 0) := get_end 1 rfl
  have hp3 : (H ++ [Obj.lv 2 [.i (N : Int), .ro (l.map (cL cI_i64))], sqo (N + 1) fun _ _ => 0, .lv 1 [.po (H.length + 1) 0]])[H.length + 2]? = some (.lv 1 [.po (H.length + 1) 0]) := get_end 2 rfl
  have hf : Fr H.length H (H ++ [Obj.lv 2 [.i (N : Int), .ro (l.map (cL cI_i64))], sqo (N + 1) fun _ _ => 0, .lv 1 [.po (H.length + 1) 0]]) := Fr.app
  have hlen : (H ++ [Obj.lv 2 [.i (N : Int), .ro (l.map (cL cI_i64))], sqo (N + 1) fun _ _ => 0, .lv 1 [.po (H.length + 1) 0]]).length = H.length + 3 := by simp
  generalize H ++ [Obj.lv 2 [.i (N : Int), .ro (l.map (cL cI_i64))], sqo (N + 1) fun _ _ => 0, .lv 1 [.po (H.length + 1) 0]] = H1 at hb hs hp3 hf hlen ⊢
  refine W_seq ?_
  refine W_gh ?_
  refine W_reg ?_
  refine O_ldb (o := 0) hp3 (by kernel_rfl) rfl ?_
  refine O_q 1 ?_
  refine O_wc (xs := [.po (H.length + 1) 0, .fn 92 [.po H.length 0, .po (H.length + 2) 0]]) (by kernel_rfl) (by kernel_rfl) ?_
  refine each_eq (n := N + 1) (fun i j H' => Fr H.length H H' ∧ H'[H.length]? = some (.lv 2 [.i (N : Int), .ro (l.map (cL cI_i64))]) ∧ H'[H.length + 2]? = some (.lv 1 [.po (H.length + 1) 0]) ∧ ∃ m, H'[H.length + 1]? = some (sqo (N + 1) m) ∧ ∀ a b, a < N + 1 → b < N + 1 → (a < i ∨ a = i ∧ b < j) → m a b = ent l a b)
    hn (fun i j H' h => by obtain ⟨m, h1, _⟩ := h.2.2.2; exact ⟨m, h1⟩) (fun i j H' h => .inr ?_) ⟨hf, hb, hp3, _, hs, fun a b _ _ h => by omega⟩ ?_ ?_ ?_
  · obtain ⟨h1, h2, h3, m, h4, h5⟩ := h
    rw [hlen]
    exact ⟨h1.take (by omega), get_take h2 (by omega), get_take h3 (by omega), m, get_take h4 (by omega), h5⟩
  · rintro i j H2 K' hi hj ⟨h1, h2, h3, m, h4, h5⟩ hk'
    refine W_call fn92 (.inr (snaps_none 2 rfl rfl)) rfl (by decide) ?_
    refine W_gh ?_
    refine W_draw ?_
    refine O_ldb (o := 0) h3 (by kernel_rfl) rfl ?_
    refine O_q 3 ?_
    refine O_ldb (o := 1) h2 (by kernel_rfl) rfl ?_
    refine O_q 1 ?_
    refine O_rold (i := i) (by kernel_rfl) (hl.row hi) ?_
    refine O_q 1 ?_
    refine O_rold (i := j) (by kernel_rfl) (hl.el hi hj) ?_
    refine O_q 2 ?_
    refine O_sqst (v := ent l i j) (i := i) (j := j) (by omega) (by omega) h4 ?_
    refine O_nil ?_
    refine Gh_e ⟨⟨21, []⟩, H2.set (H.length + 1) (sqo (N + 1) (up2 m i j (ent l i j)))⟩ ?_
    refine ⟨[], rfl, hk' _ ⟨h1.set (by omega), get_ne h2 (by omega), get_ne h3 (by omega), _, sq_self h4, ?_⟩⟩
    intro a b ha hb' h
    by_cases e : a = i ∧ b = j
    · obtain ⟨rfl, rfl⟩ := e; rw [up2_eq]
    · rw [up2_ne e]; exact h5 a b ha hb' (by omega)
  · rintro i H2 hi ⟨h1, h2, h3, m, h4, h5⟩
    exact ⟨h1, h2, h3, m, h4, fun a b ha hb' h => h5 a b ha hb' (by omega)⟩
  rintro H2 ⟨h1, h2, h3, m, h4, h5⟩
  refine O_nil ?_
  refine Gh_e ⟨⟨13, [(3, .po (H.length + 2) 0)]⟩, H2⟩ ?_
  refine W_seq ?_
  refine W_gh ?_
  refine W_reg ?_
  refine O_ldb (o := 0) h3 (by kernel_rfl) rfl ?_
  refine O_q 1 ?_
  refine O_nil ?_
  refine Gh_e ⟨⟨13, [(2, .po (H.length + 1) 0)]⟩, H2⟩ ?_
  refine W_ret ?_
  exact ⟨[.po (H.length + 1) 0], by kernel_rfl, hk _ _ m (by omega) h4 (fun i j hi hj => h5 i j hi hj (by omega)) h1⟩
end G11

namespace G11
open Go hiding Obj mark
open Go.Pl Go.Am Go.Am.As
set_option linter.unusedVariables false

end G11

namespace G11
open Go hiding Obj mark
open Go.Pl Go.Am Go.Am.As
set_option linter.unusedVariables false

variable {E : Env} {hpx : Nat → Bool} {dr : Bool} {os : List ROp} {t : T} {H : List Obj} {K : T → List Obj → Prop} {g : Option (Nat × Bool)} {d : Option Nat}

/-- an element of an own slice -/
theorem O_owld {id n i d1 d2 : Nat} {fl : Fl} {es : List (List AV)} {v : AV} {x ix : RX} (hH : H[id]? = some (.live fl 1 es)) (hl : es.length = n) (he : es[i]? = some [v])
    (hk : WO E hpx dr os ((t.put d1 (.pown id n i 0)).put d2 v) H K) (hx : evT E.glob t x = .own id n 0 n := by kernel_rfl) (hi : evT E.glob t ix = .i (i : Int) := by kernel_rfl)
    (e1 : evT E.glob (t.put d1 (.pown id n i 0)) (.t d1) = .pown id n i 0 := by kernel_rfl) (w1 : wantT t g = some true := by kernel_rfl) (w2 : wantT (t.put d1 (.pown id n i 0)) g = some true := by kernel_rfl) :
    WO E hpx dr (⟨some d1, g, .iadS 1 x ix⟩ :: ⟨some d2, g, .load 1 false (.t d1)⟩ :: os) t H K := by
  have hi' : i < es.length := (List.getElem?_eq_some_iff.1 he).1
  refine WO_step (v := .pown id n i 0) (H1 := H) (by simp [RO.kind]) w1 ?_ ?_
  · simp only [ev1, evalOpe, RO.kind, evalRe, hx, hi, iadS, getLive, hH, hl]
    rw [if_pos ⟨trivial, trivial, by omega, by omega⟩]
    simp
  · exact O_ldc (es := es) (cs := [v]) e1 hH hl.symm he rfl hk w2
theorem O_owst {id n i d1 : Nat} {fl : Fl} {es : List (List AV)} {v v' : AV} {x ix y : RX} (hH : H[id]? = some (.live fl 1 es)) (hl : es.length = n) (he : es[i]? = some [v]) (hf : fl.free = true)
    (hk : WO E hpx dr os (t.put d1 (.pown id n i 0)) (H.set id (.live fl 1 (es.set i [v']))) K) (hx : evT E.glob t x = .own id n 0 n := by kernel_rfl) (hi : evT E.glob t ix = .i (i : Int) := by kernel_rfl)
    (hy : evT E.glob (t.put d1 (.pown id n i 0)) y = v' := by kernel_rfl) (h1 : v'.cells = [v'] := by rfl) (h2 : allOne [v'] = true := by rfl)
    (e1 : evT E.glob (t.put d1 (.pown id n i 0)) (.t d1) = .pown id n i 0 := by kernel_rfl) :
    WO E hpx dr (⟨some d1, none, .iadS 1 x ix⟩ :: ⟨none, none, .store 1 (.t d1) y⟩ :: os) t H K := by
  have hi' : i < es.length := (List.getElem?_eq_some_iff.1 he).1
  refine WO_step (v := .pown id n i 0) (H1 := H) (by simp [RO.kind]) rfl ?_ ?_
  · simp only [ev1, evalOpe, RO.kind, evalRe, hx, hi, iadS, getLive, hH, hl]
    rw [if_pos ⟨trivial, trivial, by omega, by omega⟩]
    simp
  · refine WO_step (v := .tup []) (H1 := H.set id (.live fl 1 (es.set i [v']))) (by simp [RO.kind]) rfl ?_ hk
    have e1' : evT E.glob (putD t (some d1) (.pown id n i 0)) (.t d1) = .pown id n i 0 := e1
    have e2' : evT E.glob (putD t (some d1) (.pown id n i 0)) y = v' := hy
    simp only [ev1, evalOpe, RO.kind, evalWe, e1', e2', storeAt, getLive, hH, nlAt, h1, List.length_singleton]
    rw [if_pos ⟨hl.symm, trivial, by omega, h2, hf⟩]
    simp [he, putAt]

/-- numbers in own memory -/
abbrev fo (n : Nat) (f : Nat → Int) : Obj := .live .norm 1 ((rowL n f).map cI_i64)
theorem fo_len {n : Nat} {f : Nat → Int} : ((rowL n f).map cI_i64).length = n := by simp [rowL]
theorem fo_get {n : Nat} {f : Nat → Int} {i : Nat} (hi : i < n) : ((rowL n f).map cI_i64)[i]? = some [.i (f i)] := by simp [rowL, hi, cI_i64]
theorem fo_set {n : Nat} {f : Nat → Int} {i : Nat} {v : Int} (hi : i < n) : ((rowL n f).map cI_i64).set i [.i v] = (rowL n (upd f i v)).map cI_i64 := by
  refine List.ext_getElem? (fun k => ?_)
  by_cases hk : k < n
  · rw [List.getElem?_set, fo_get hk]
    by_cases e : i = k
    · subst e; rw [if_pos rfl, if_pos (by rw [fo_len]; exact hi), fo_get hi, upd_eq]
    · rw [if_neg e, fo_get hk, upd_ne (fun h => e h.symm)]
  · rw [List.getElem?_eq_none (by simp [rowL]; omega), List.getElem?_eq_none (by simp [rowL]; omega)]

theorem set_set {H : List Obj} {id : Nat} {a b : Obj} : (H.set id a).set id b = H.set id b := by simp
/-- turning a list round, from both ends -/
def rv (f : Nat → Int) (m i : Nat) : Nat → Int := fun t => if t < i ∨ m - 1 - i < t then f (m - 1 - t) else f t
end G11

namespace G11
open Go hiding Obj mark
open Go.Pl Go.Am Go.Am.As
set_option linter.unusedVariables false

theorem BdF.mono {c e : Int} {s : BF} (h : BdF c s) (he : c ≤ e) : BdF e s := fun v => by have := h v; omega
end G11

namespace G11
open Go hiding Obj mark
open Go.Pl Go.Am Go.Am.As
set_option linter.unusedVariables false

end G11

namespace G11
open Go hiding Obj mark
open Go.Pl Go.Am Go.Am.As
set_option linter.unusedVariables false

variable {N : Nat} {l : List (List Int)} (h : Rt N l)
include h
end G11

namespace G11
open Go hiding Obj mark
open Go.Pl Go.Am Go.Am.As
set_option linter.unusedVariables false

theorem cSB (a : SBounds) : cSBounds a = [.i a.N, .ro (a.Most.map (cL cI_i64))] := rfl

end G11

namespace G11
open Go hiding Obj mark
open Go.Pl Go.Am Go.Am.As
set_option linter.unusedVariables false

section
variable {E : Env} {hpx : Nat → Bool} {dr : Bool} {os : List ROp} {t : T} {H : List Obj} {K : T → List Obj → Prop} {g : Option (Nat × Bool)} {d : Option Nat}
/-- a slice of one element is made -/
theorem O_bsl1 {v z : AV} {x : RX} (hx : evT E.glob t x = v) (hk : WO E hpx dr os (putD t d (.own H.length 1 0 1)) (H ++ [.live .norm 1 [[v]]]) K) (h1 : v.cells = [v] := by rfl) (h2 : v.one = true := by rfl) (hz : z.one = true := by rfl) (hw : wantT t g = some true := by kernel_rfl) :
    WO E hpx dr (⟨d, g, .bsl 1 [z] 1 [(0, x)]⟩ :: os) t H K := by
  refine WO_step (v := .own H.length 1 0 1) (H1 := H ++ [.live .norm 1 [[v]]]) (by simp [RO.kind]) hw ?_ hk
  simp only [ev1, evalOpe, RO.kind, evalWe, hx, List.map_cons, List.map_nil]
  rw [if_pos ⟨rfl, by simp [allOne, hz], by decide⟩]
  simp [fillS, h1, allOne, h2, putObj]
/-- an element is put behind an own slice -/
theorem O_app1 {id m tid bytes : Nat} {fl fl2 : Fl} {es : List (List AV)} {v : AV} {x y : RX} (hH : H[id]? = some (.live fl 1 es)) (hm : es.length = m) (hT : H[tid]? = some (.live fl2 1 [[v]])) (hg : fl.grows = true) (hb : (m + 1) * bytes ≤ 2 ^ 40) (hb2 : m + 1 ≤ 2 ^ 40) (h2 : v.one = true)
    (hk : WO E hpx dr os (putD t d (.own id (m + 1) 0 (m + 1))) (H.set id (.live fl 1 (es ++ [[v]]))) K) (hx : evT E.glob t x = .own id m 0 m := by kernel_rfl) (hy : evT E.glob t y = .own tid 1 0 1 := by kernel_rfl) (hw : wantT t g = some true := by kernel_rfl) :
    WO E hpx dr (⟨d, g, .app 1 bytes x y⟩ :: os) t H K := by
  refine WO_step (v := .own id (m + 1) 0 (m + 1)) (H1 := H.set id (.live fl 1 (es ++ [[v]]))) (by simp [RO.kind]) hw ?_ hk
  have hall : ([[v]].all fun e => e.length == 1 && allOne e) = true := by simp [allOne, h2]
  simp only [ev1, evalOpe, RO.kind, evalWe, hx, hy, append, elemsOf, getLive, hT, hH, List.length_singleton, if_true, List.drop_zero, List.take_one, List.head?_cons, Option.toList_some, hall, nlAt]
  rw [if_pos ⟨hm.symm, trivial, hm.symm, trivial, by rw [hm]; exact hb, by rw [hm]; exact hb2⟩, if_pos hg, hm]
end

/-- what is in a slot keeps the memory -/
theorem Gh_keep {b n : Nat} {gs : List GA} {s : ST} {N : ST → Prop} (h : T.belsL (b + n) s.tmps.l = false) (k : Gh b gs s N) : Gh b (.trunc n :: gs) s N := by
  refine Gh_one (s1 := s) ?_ k
  have hc : (Nat.blt (b + n) s.H.length && (T.bels (b + n) s.tmps && objsBel (b + n) (s.H.take (b + n)))) = false := by
    unfold T.bels; rw [h]; cases Nat.blt (b + n) s.H.length <;> rfl
  simp only [ghost1T, hc, Bool.false_eq_true, if_false]
theorem tb_bad {n k : Nat} {v : AV} {r : List (Nat × AV)} (h : v.bel n = false) : T.belsL n ((k, v) :: r) = false := by simp [T.belsL, h]
theorem tb_skip {n k : Nat} {v : AV} {r : List (Nat × AV)} (h : T.belsL n r = false) : T.belsL n ((k, v) :: r) = false := by simp [T.belsL, h]
theorem own_bad {n id e o l : Nat} (h : n ≤ id) : (AV.own id e o l).bel n = false := by simp [AV.bel]; omega

end G11

namespace G11
open Go hiding Obj mark
open Go.Pl Go.Am Go.Am.As
set_option linter.unusedVariables false

section
variable {b0 k : Nat} {os : List (Nat × ROp)} {t : T} {H : List Obj} {K : T → List Obj → List FP → Prop} {d : Nat}

theorem WD_q (n : Nat) (fl : List FP) (hk : WD E0 hp b0 (os.drop n) (runDs E0.glob b0 n os t H).1 H (fun t' H' fs => K t' H' (fl ++ fs))) (h : okD E0.glob b0 n os t H = true := by kernel_rfl) (e : (runDs E0.glob b0 n os t H).2.1 = H := by kernel_rfl) (ef : (runDs E0.glob b0 n os t H).2.2 = fl := by kernel_rfl) : WD E0 hp b0 os t H K := by
  refine WD_ps n h ?_
  rw [e, ef]; exact hk
theorem WD_ld {id ext e o sz : Nat} {fl : Fl} {es : List (List AV)} {cs : List AV} {v : AV} {x : RX} (hH : H[id]? = some (.live fl sz es)) (hl : ext = es.length) (he : es[e]? = some cs) (hc : cs[o]? = some v)
    (hk : WD E0 hp b0 os (t.put d v) H (fun t' H' fs => K t' H' ({ r := [id] } :: fs))) (hx : evT E0.glob t x = .pown id ext e o := by kernel_rfl) : WD E0 hp b0 ((k, ⟨some d, none, .load 1 false x⟩) :: os) t H K := by
  refine WD_op rfl (fp := { r := [id] }) (by simp [fpOfe, hx, refs]) ?_
  exact O_ldc hx hH hl he hc (O_nil hk) rfl
theorem WD_ldb {id o sz : Nat} {cs : List AV} {v : AV} {x : RX} (hH : H[id]? = some (.lv sz cs)) (hc : cs[o]? = some v) (hk : WD E0 hp b0 os (t.put d v) H (fun t' H' fs => K t' H' ({ r := [id] } :: fs))) (hx : evT E0.glob t x = .po id o := by kernel_rfl) :
    WD E0 hp b0 ((k, ⟨some d, none, .load 1 false x⟩) :: os) t H K := WD_ld (es := [cs]) hH rfl rfl hc hk hx
theorem WD_ia {id n i sz : Nat} {fl : Fl} {es : List (List AV)} {x ix : RX} (hH : H[id]? = some (.live fl sz es)) (hl : es.length = n) (hi : i < n) (hk : WD E0 hp b0 os (t.put d (.pown id n i 0)) H (fun t' H' fs => K t' H' ({ r := [id] } :: fs)))
    (hx : evT E0.glob t x = .own id n 0 n := by kernel_rfl) (hix : evT E0.glob t ix = .i (i : Int) := by kernel_rfl) : WD E0 hp b0 ((k, ⟨some d, none, .iadS sz x ix⟩) :: os) t H K := by
  refine WD_op rfl (fp := { r := [id] }) (by simp [fpOfe, hx, refs]) ?_
  refine WO_step (v := .pown id n i 0) (H1 := H) (by simp [RO.kind]) rfl ?_ (O_nil hk)
  simp only [ev1, evalOpe, RO.kind, evalRe, hx, hix, iadS, getLive, hH, hl]
  rw [if_pos ⟨trivial, trivial, by omega, by omega⟩]
  simp
theorem WD_iaA {id o len sz i : Nat} {x ix : RX} (hi : i < len) (hk : WD E0 hp b0 os (t.put d (.po id (o + i * sz))) H (fun t' H' fs => K t' H' ({} :: fs))) (hx : evT E0.glob t x = .po id o := by kernel_rfl) (hix : evT E0.glob t ix = .i (i : Int) := by kernel_rfl) :
    WD E0 hp b0 ((k, ⟨some d, none, .iadA len sz x ix⟩) :: os) t H K := by
  refine WD_op rfl (fp := {}) rfl ?_
  exact O_ia hx hix hi (O_nil hk) rfl
theorem WD_bsl1 {v z : AV} {x : RX} (hr : H[b0 + k]? = some .rsv) (hk : WD E0 hp b0 os (t.put d (.own (b0 + k) 1 0 1)) (H.set (b0 + k) (.live .norm 1 [[v]])) (fun t' H' fs => K t' H' ({ w := [b0 + k] } :: fs)))
    (hx : evT E0.glob t x = v := by kernel_rfl) (h1 : v.cells = [v] := by rfl) (h2 : v.one = true := by rfl) (hz : z.one = true := by rfl) : WD E0 hp b0 ((k, ⟨some d, none, .bsl 1 [z] 1 [(0, x)]⟩) :: os) t H K := by
  have hl := get_lt hr
  refine WD_act (v := .own (b0 + k) 1 0 1) (H1 := H.set (b0 + k) (.live .norm 1 [[v]])) (f := { w := [b0 + k] }) ?_ hk
  have e1 : wantT t (none : Option (Nat × Bool)) = some true := rfl
  have e2 : plOk H (b0 + k) (.bsl 1 [z] 1 [(0, x)]) = true := by simp [plOk, hr]
  have e3 : evalOpe (evT E0.glob t) (fun _ => false) (fun _ _ => none) (fun _ _ _ => none) (b0 + k) (.bsl 1 [z] 1 [(0, x)]) H = some (.own (b0 + k) 1 0 1, H.set (b0 + k) (.live .norm 1 [[v]])) := by
    simp only [evalOpe, RO.kind, evalWe, hx, List.map_cons, List.map_nil]
    rw [if_pos ⟨rfl, by simp [allOne, hz], by decide⟩]
    simp [fillS, h1, allOne, h2, putObj, hl]
  simp only [actDT, evalDe, e1, e2, if_true, e3]
  rfl
/-- behind nil: a new row -/
theorem WD_appN {tid bytes : Nat} {fl2 : Fl} {v : AV} {x y : RX} (hr : H[b0 + k]? = some .rsv) (hT : H[tid]? = some (.live fl2 1 [[v]])) (h2 : v.one = true) (hb : bytes ≤ 2 ^ 40)
    (hk : WD E0 hp b0 os (t.put d (.own (b0 + k) 1 0 1)) (H.set (b0 + k) (.live .norm 1 [[v]])) (fun t' H' fs => K t' H' ({ r := [tid], w := [b0 + k] } :: fs)))
    (hx : evT E0.glob t x = .nils := by kernel_rfl) (hy : evT E0.glob t y = .own tid 1 0 1 := by kernel_rfl) : WD E0 hp b0 ((k, ⟨some d, none, .app 1 bytes x y⟩) :: os) t H K := by
  have hl := get_lt hr
  refine WD_act (v := .own (b0 + k) 1 0 1) (H1 := H.set (b0 + k) (.live .norm 1 [[v]])) (f := { r := [tid], w := [b0 + k] }) ?_ hk
  have e1 : wantT t (none : Option (Nat × Bool)) = some true := rfl
  have e2 : plOk H (b0 + k) (.app 1 bytes x y) = true := by simp [plOk, hr]
  have hall : ([[v]].all fun e => e.length == 1 && allOne e) = true := by simp [allOne, h2]
  have e3 : evalOpe (evT E0.glob t) (fun _ => false) (fun _ _ => none) (fun _ _ _ => none) (b0 + k) (.app 1 bytes x y) H = some (.own (b0 + k) 1 0 1, H.set (b0 + k) (.live .norm 1 [[v]])) := by
    simp only [evalOpe, RO.kind, evalWe, hx, hy, append, elemsOf, getLive, hT, List.length_singleton, if_true, List.drop_zero, List.take_one, List.head?_cons, Option.toList_some, hall]
    rw [if_neg (by simp), if_pos ⟨by omega, by decide⟩]
    simp [putObj, hl]
  simp only [actDT, evalDe, e1, e2, if_true, e3]
  simp only [fpOfe, hx, hy, refs]
/-- in its place -/
theorem WD_app1 {id m tid bytes : Nat} {fl fl2 : Fl} {es : List (List AV)} {v : AV} {x y : RX} (hr : H[b0 + k]? = some .rsv) (hH : H[id]? = some (.live fl 1 es)) (hm : es.length = m) (hT : H[tid]? = some (.live fl2 1 [[v]])) (hg : fl.grows = true) (hb : (m + 1) * bytes ≤ 2 ^ 40) (hb2 : m + 1 ≤ 2 ^ 40) (h2 : v.one = true)
    (hk : WD E0 hp b0 os (t.put d (.own id (m + 1) 0 (m + 1))) (H.set id (.live fl 1 (es ++ [[v]]))) (fun t' H' fs => K t' H' ({ r := [tid], w := [b0 + k, id] } :: fs))) (hx : evT E0.glob t x = .own id m 0 m := by kernel_rfl) (hy : evT E0.glob t y = .own tid 1 0 1 := by kernel_rfl) :
    WD E0 hp b0 ((k, ⟨some d, none, .app 1 bytes x y⟩) :: os) t H K := by
  refine WD_act (v := .own id (m + 1) 0 (m + 1)) (H1 := H.set id (.live fl 1 (es ++ [[v]]))) (f := { r := [tid], w := [b0 + k, id] }) ?_ hk
  have e1 : wantT t (none : Option (Nat × Bool)) = some true := rfl
  have e2 : plOk H (b0 + k) (.app 1 bytes x y) = true := by simp [plOk, hr]
  have hall : ([[v]].all fun e => e.length == 1 && allOne e) = true := by simp [allOne, h2]
  have e3 : evalOpe (evT E0.glob t) (fun _ => false) (fun _ _ => none) (fun _ _ _ => none) (b0 + k) (.app 1 bytes x y) H = some (.own id (m + 1) 0 (m + 1), H.set id (.live fl 1 (es ++ [[v]]))) := by
    simp only [evalOpe, RO.kind, evalWe, hx, hy, append, elemsOf, getLive, hT, hH, List.length_singleton, if_true, List.drop_zero, List.take_one, List.head?_cons, Option.toList_some, hall, nlAt]
    rw [if_pos ⟨hm.symm, trivial, hm.symm, trivial, by rw [hm]; exact hb, by rw [hm]; exact hb2⟩, if_pos hg, hm]
  simp only [actDT, evalDe, e1, e2, if_true, e3]
  simp only [fpOfe, hx, hy, refs]
/-- a cell of an own slice is written -/
theorem WD_st {id n i : Nat} {fl : Fl} {es : List (List AV)} {v v' : AV} {x y : RX} (hH : H[id]? = some (.live fl 1 es)) (hl : es.length = n) (he : es[i]? = some [v]) (hf : fl.free = true)
    (hk : WD E0 hp b0 os t (H.set id (.live fl 1 (es.set i [v']))) (fun t' H' fs => K t' H' ({ w := [id] } :: fs))) (hx : evT E0.glob t x = .pown id n i 0 := by kernel_rfl) (hy : evT E0.glob t y = v' := by kernel_rfl) (h1 : v'.cells = [v'] := by rfl) (h2 : allOne [v'] = true := by rfl) :
    WD E0 hp b0 ((k, ⟨none, none, .store 1 x y⟩) :: os) t H K := by
  refine WD_op rfl (fp := { w := [id] }) (by simp [fpOfe, hx, refs]) ?_
  refine WO_step (v := .tup []) (H1 := H.set id (.live fl 1 (es.set i [v']))) (by simp [RO.kind]) rfl ?_ (O_nil hk)
  simp only [ev1, evalOpe, RO.kind, evalWe, hx, hy, storeAt, getLive, hH, nlAt, h1, List.length_singleton]
  rw [if_pos ⟨hl.symm, trivial, by omega, h2, hf⟩]
  simp [he, putAt]
end

theorem noT_ref {c b : Nat} {o : Obj} {H : List Obj} (hH : H[b]? = some o) (hb : b < c) (ho : o.bel c = false) : NoT c H := by
  unfold NoT
  cases h : objsBel c (H.take c) with
  | false => rw [Bool.and_false]
  | true =>
    exfalso
    have : ∀ {A : List Obj} {i : Nat} {o : Obj}, objsBel c A = true → A[i]? = some o → o.bel c = true := by
      intro A
      induction A with
      | nil => intro i o _ h; simp at h
      | cons x A ih =>
        intro i o h1 h2
        simp only [objsBel, Bool.and_eq_true] at h1
        cases i with
        | zero => simp at h2; subst h2; exact h1.1
        | succ i => exact ih h1.2 (by simpa using h2)
    rw [this h (get_take hH hb)] at ho
    cases ho
theorem belss_get {c : Nat} {es : List (List AV)} {i id e o l : Nat} (h : es[i]? = some [.own id e o l]) (hc : c ≤ id) : AV.belss c es = false := by
  induction es generalizing i with
  | nil => simp at h
  | cons x es ih =>
    cases i with
    | zero => simp at h; subst h; simp [AV.belss, AV.bels, AV.bel]; omega
    | succ i =>
      simp only [AV.belss, Bool.and_eq_false_iff]
      exact .inr (ih (by simpa using h))

theorem row_f {id bx sx b n i j : Nat} {m : Nat → Nat → Int} {H : List Obj} {K : AV → List Obj → Prop} {flb : Fl} {rows es : List (List AV)} {rv N0 : AV} (hi : i < 13) (hj : j < 13)
    (hs : H[id]? = some (sqo n m)) (hsx : H[sx]? = some (.lv 1 [.po id 0])) (hbx : H[bx]? = some (.lv 2 [N0, .own b n 0 n])) (hb : H[b]? = some (.live flb 1 rows)) (hfl : flb.free = true) (hlen : rows.length = n) (hin : i < n) (hrow : rows[i]? = some [rv]) (hne : bx ≠ b)
    (hrv : (rv = .nils ∧ es = [] ∧ j = 0) ∨ ∃ rid, rv = .own rid j 0 j ∧ H[rid]? = some (.live .norm 1 es) ∧ es.length = j ∧ rid ≠ b ∧ rid ≠ bx)
    (hk : ∀ r' H', H'[b]? = some (.live flb 1 (rows.set i [.own r' (j + 1) 0 (j + 1)])) → H'[r']? = some (.live .norm 1 (es ++ [[.i (m i j)]])) → (∀ a, a < H.length → a ≠ b → a ≠ r' → H'[a]? = H[a]?) → (rv = .own r' j 0 j ∨ rv = .nils ∧ r' = H.length + 1) → K (.tup []) H') :
    WC E0 hp false 91 [.i (i : Int), .i (j : Int), .po bx 0, .po sx 0] H K := by
  have lb := get_lt hb
  have lbx := get_lt hbx
  have lsx := get_lt hsx
  have lid := get_lt hs
  have hi' : i < rows.length := (List.getElem?_eq_some_iff.1 hrow).1
  refine W_call fn91 (.inr (snaps_none 2 rfl rfl)) rfl (by decide) ?_
  refine W_gh ?_
  refine W_drawW (L := H.length) rfl ?_
  have q1 : (H ++ [Obj.rsv, Obj.rsv])[H.length + 0]? = some .rsv := get_end 0 rfl
  have a1 : ∀ {a : Nat} {o : Obj}, H[a]? = some o → (H ++ [Obj.rsv, Obj.rsv])[a]? = some o := fun h => get_app h
  show WD E0 hp H.length _ _ (H ++ [Obj.rsv, Obj.rsv]) _
  refine WD_q 1 [{}] ?_
  refine WD_ldb (o := 1) (a1 hbx) rfl ?_
  refine WD_q 2 [{}, {}] ?_
  refine WD_ldb (o := 1) (a1 hbx) rfl ?_
  refine WD_q 1 [{}] ?_
  refine WD_ia (i := i) (a1 hb) hlen hin ?_
  refine WD_ld (e := i) (o := 0) (a1 hb) hlen.symm hrow rfl ?_
  refine WD_ldb (o := 0) (a1 hsx) rfl ?_
  refine WD_q 4 [{}, {}, {}, {}] ?_
  refine WD_iaA (id := id) (o := 1) (i := i) hi ?_
  refine WD_iaA (id := id) (o := 1 + i * 13) (i := j) hj ?_
  refine WD_ld (o := 1 + i * 13 + j * 1) (e := 0) (v := .i (m i j)) (a1 hs) rfl rfl ?_ ?_
  · rw [show 1 + i * 13 + j * 1 = (i * 13 + j) + 1 by omega, List.getElem?_cons_succ]; exact sqc_get hi hj
  refine WD_bsl1 (v := .i (m i j)) q1 ?_
  have e1 : (H ++ [Obj.rsv, Obj.rsv]).set (H.length + 0) (.live .norm 1 [[.i (m i j)]]) = H ++ [.live .norm 1 [[.i (m i j)]], .rsv] := by simp
  rw [e1]
  have q2 : (H ++ [Obj.live .norm 1 [[.i (m i j)]], .rsv])[H.length + 1]? = some .rsv := get_end 1 rfl
  have q3 : (H ++ [Obj.live .norm 1 [[.i (m i j)]], .rsv])[H.length + 0]? = some (.live .norm 1 [[.i (m i j)]]) := get_end 0 rfl
  have a2 : ∀ {a : Nat} {o : Obj}, H[a]? = some o → (H ++ [Obj.live .norm 1 [[.i (m i j)]], .rsv])[a]? = some o := fun h => get_app h
  have f2 : ∀ a, a < H.length → (H ++ [Obj.live .norm 1 [[.i (m i j)]], .rsv])[a]? = H[a]? := fun a ha => List.getElem?_append_left ha
  have l2 : (H ++ [Obj.live .norm 1 [[.i (m i j)]], .rsv]).length = H.length + 2 := by simp
  generalize H ++ [Obj.live .norm 1 [[.i (m i j)]], .rsv] = H2 at q2 q3 a2 f2 l2 ⊢
  rcases hrv with ⟨rfl, rfl, rfl⟩ | ⟨rid, rfl, hrid, hes, hr1, hr2⟩
  · refine WD_appN q2 q3 rfl (by decide) ?_
    refine WD_ia (i := i) (id := b) (get_ne (a2 hb) (by omega)) hlen hin ?_
    refine WD_st (i := i) (id := b) (v' := .own (H.length + 1) 1 0 1) (get_ne (a2 hb) (by omega)) hlen hrow hfl ?_
    refine WD_nil ⟨?_, ?_⟩
    · simp [pairsDisj, disj, noneOf]
      omega
    · refine Gh_one (s1 := ⟨⟨25, []⟩, (H2.set (H.length + 1) (.live .norm 1 [[.i (m i 0)]])).set b (.live flb 1 (rows.set i [.own (H.length + 1) 1 0 1]))⟩) (by kernel_rfl) ?_
      have g1 : ((H2.set (H.length + 1) (.live .norm 1 [[.i (m i 0)]])).set b (.live flb 1 (rows.set i [.own (H.length + 1) 1 0 1])))[b]? = some (.live flb 1 (rows.set i [.own (H.length + 1) 1 0 1])) := sq_self (get_ne (a2 hb) (by omega))
      have g2 : ((H2.set (H.length + 1) (.live .norm 1 [[.i (m i 0)]])).set b (.live flb 1 (rows.set i [.own (H.length + 1) 1 0 1])))[H.length + 1]? = some (.live .norm 1 [[.i (m i 0)]]) := get_ne (sq_self q2) (by omega)
      refine Gh_noT (noT_ref g1 lb ?_) ?_
      · exact belss_get (i := i) (by rw [List.getElem?_set_self hi']) (by omega)
      refine Gh_nil ?_
      refine ⟨[], rfl, hk (H.length + 1) _ g1 g2 (fun a ha h1 h2 => ?_) (.inr ⟨rfl, rfl⟩)⟩
      show ((H2.set (H.length + 1) _).set b _)[a]? = _
      rw [List.getElem?_set_ne (by omega), List.getElem?_set_ne (by omega), f2 a ha]
  · have lr := get_lt hrid
    refine WD_app1 (id := rid) (m := j) q2 (a2 hrid) hes q3 rfl (by omega) (by omega) rfl ?_
    refine WD_ia (i := i) (id := b) (get_ne (a2 hb) (by omega)) hlen hin ?_
    refine WD_st (i := i) (id := b) (v' := .own rid (j + 1) 0 (j + 1)) (get_ne (a2 hb) (by omega)) hlen hrow hfl ?_
    refine WD_nil ⟨?_, ?_⟩
    · simp [pairsDisj, disj, noneOf]
      omega
    · refine Gh_one (s1 := ⟨⟨25, []⟩, (H2.set rid (.live .norm 1 (es ++ [[.i (m i j)]]))).set b (.live flb 1 (rows.set i [.own rid (j + 1) 0 (j + 1)]))⟩) (by kernel_rfl) ?_
      have g1 : ((H2.set rid (.live .norm 1 (es ++ [[.i (m i j)]]))).set b (.live flb 1 (rows.set i [.own rid (j + 1) 0 (j + 1)])))[b]? = some (.live flb 1 (rows.set i [.own rid (j + 1) 0 (j + 1)])) := sq_self (get_ne (a2 hb) (by omega))
      have g2 : ((H2.set rid (.live .norm 1 (es ++ [[.i (m i j)]]))).set b (.live flb 1 (rows.set i [.own rid (j + 1) 0 (j + 1)])))[rid]? = some (.live .norm 1 (es ++ [[.i (m i j)]])) := get_ne (sq_self (a2 hrid)) hr1
      have g3 : ∀ a, a < H.length → a ≠ b → a ≠ rid → ((H2.set rid (.live .norm 1 (es ++ [[.i (m i j)]]))).set b (.live flb 1 (rows.set i [.own rid (j + 1) 0 (j + 1)])))[a]? = H[a]? := fun a ha h1 h2 => by
        rw [List.getElem?_set_ne (by omega), List.getElem?_set_ne (by omega), f2 a ha]
      generalize (H2.set rid (.live .norm 1 (es ++ [[.i (m i j)]]))).set b (.live flb 1 (rows.set i [.own rid (j + 1) 0 (j + 1)])) = H3 at g1 g2 g3 ⊢
      refine Gh_tr (fun H' => H'[b]? = some (.live flb 1 (rows.set i [.own rid (j + 1) 0 (j + 1)])) ∧ H'[rid]? = some (.live .norm 1 (es ++ [[.i (m i j)]])) ∧ ∀ a, a < H.length → a ≠ b → a ≠ rid → H'[a]? = H[a]?) ⟨g1, g2, g3⟩
        (.inr ⟨get_take g1 (by omega), get_take g2 (by omega), fun a ha h1 h2 => by rw [List.getElem?_take_of_lt (by omega)]; exact g3 a ha h1 h2⟩) (fun H4 h4 => ?_)
      refine Gh_nil ?_
      exact ⟨[], rfl, hk rid H4 h4.1 h4.2.1 h4.2.2 (.inl rfl)⟩
end G11

namespace G11
open Go hiding Obj mark
open Go.Pl Go.Am Go.Am.As
set_option linter.unusedVariables false

theorem Gh_wkp {b t id sz : Nat} {cs cs' : List AV} {gs : List GA} {s : ST} {N : ST → Prop} (hH : s.H[id]? = some (.lv sz cs)) (hx : s.tmps.get t = .po id 0) (hc : cs.map AV.wk1 = cs') (hp : s.tmps.put t (.po id 0) = s.tmps) (k : Gh b gs ⟨s.tmps, s.H.set id (.lv sz cs')⟩ N) : Gh b (.wk [t] :: gs) s N := by
  refine Gh_one ?_ k
  subst hc
  show some (wksT [t] s) = _
  simp only [wksT, hx, AV.wk, wkH, hH, Obj.wk, List.map_cons, List.map_nil, hp]

theorem res_box {t n id sz : Nat} {cs : List AV} {r : List (Sum Nat (Nat × Nat × Bool))} {l : List AV} {s : ST} (hx : s.tmps.get t = .po id 0) (hH : s.H[id]? = some (.lv sz cs)) (hn : cs.length = n) (hr : resultsT r s = some l) : resultsT (.inr (t, n, true) :: r) s = some (.agg cs :: l) := by
  simp [resultsT, hx, loadAt, getLive, hH, Am.part, hn.symm, hr]

/-- rows of numbers in own memory, from L on -/
structure NB (L : Nat) (H : List Obj) (b n : Nat) (m : Nat → Nat → Int) (rid : Nat → Nat) : Prop where
  top : H[b]? = some (.live .norm 1 ((List.range n).map fun i => [.own (rid i) n 0 n]))
  row : ∀ i, i < n → H[rid i]? = some (fo n (m i))
  lb : L ≤ b
  lr : ∀ i, i < n → L ≤ rid i
  inj : ∀ i j, i < n → j < n → rid i = rid j → i = j
  ne : ∀ i, i < n → rid i ≠ b

/-- the rows while they are filled -/
def rws (n : Nat) (rid : Nat → Nat) (i j : Nat) : List (List AV) := (List.range n).map fun a => if a < i then [.own (rid a) n 0 n] else if a = i ∧ 0 < j then [.own (rid i) j 0 j] else [.nils]
theorem rws_get {n : Nat} {rid : Nat → Nat} {i j a : Nat} (ha : a < n) : (rws n rid i j)[a]? = some (if a < i then [.own (rid a) n 0 n] else if a = i ∧ 0 < j then [.own (rid i) j 0 j] else [.nils]) := by
  simp [rws, ha]
theorem rws_len {n : Nat} {rid : Nat → Nat} {i j : Nat} : (rws n rid i j).length = n := by simp [rws]
theorem rws_step {n : Nat} {rid rid' : Nat → Nat} {i j r' : Nat} (hi : i < n) (h1 : rid' i = r') (h2 : ∀ a, a < i → rid' a = rid a) : (rws n rid i j).set i [.own r' (j + 1) 0 (j + 1)] = rws n rid' i (j + 1) := by
  refine List.ext_getElem? (fun a => ?_)
  by_cases ha : a < n
  · rw [List.getElem?_set, rws_get ha, rws_get ha]
    by_cases e : i = a
    · subst e
      rw [if_pos rfl, if_pos (by rw [rws_len]; exact hi), if_neg (by omega), if_pos ⟨rfl, by omega⟩, h1]
    · rw [if_neg e]
      by_cases h : a < i
      · rw [if_pos h, if_pos h, h2 a h]
      · rw [if_neg h, if_neg h, if_neg (by omega), if_neg (by omega)]
  · rw [List.getElem?_eq_none (by simp [rws]; omega), List.getElem?_eq_none (by simp [rws]; omega)]
theorem rws_next {n : Nat} {rid : Nat → Nat} {i : Nat} (hn : 0 < n) : rws n rid i n = rws n rid (i + 1) 0 := by
  unfold rws
  refine List.map_congr_left (fun a ha => ?_)
  by_cases h : a < i
  · rw [if_pos h, if_pos (by omega)]
  · rw [if_neg h]
    by_cases h2 : a = i
    · subst h2; rw [if_pos ⟨rfl, hn⟩, if_pos (by omega)]
    · rw [if_neg (by omega), if_neg (by omega), if_neg (by omega)]

theorem WD_mks {b0 k d n : Nat} {os : List (Nat × ROp)} {t : T} {H : List Obj} {K : T → List Obj → List FP → Prop} {x y : RX} (hr : H[b0 + k]? = some .rsv) (hn : n ≤ 1000)
    (hk : WD E0 hp b0 os (t.put d (.own (b0 + k) n 0 n)) (H.set (b0 + k) (.live .norm 1 (List.replicate n [.nils]))) (fun t' H' fs => K t' H' ({ w := [b0 + k] } :: fs))) (hx : evT E0.glob t x = .i (n : Int) := by kernel_rfl) (hy : evT E0.glob t y = .i (n : Int) := by kernel_rfl) :
    WD E0 hp b0 ((k, ⟨some d, none, .mks 1 [.nils] 24 x y⟩) :: os) t H K := by
  have hl := get_lt hr
  refine WD_act (v := .own (b0 + k) n 0 n) (H1 := H.set (b0 + k) (.live .norm 1 (List.replicate n [.nils]))) (f := { w := [b0 + k] }) ?_ hk
  have e1 : wantT t (none : Option (Nat × Bool)) = some true := rfl
  have e2 : plOk H (b0 + k) (.mks 1 [.nils] 24 x y) = true := by simp [plOk, hr]
  have e3 : evalOpe (evT E0.glob t) (fun _ => false) (fun _ _ => none) (fun _ _ _ => none) (b0 + k) (.mks 1 [.nils] 24 x y) H = some (.own (b0 + k) n 0 n, H.set (b0 + k) (.live .norm 1 (List.replicate n [.nils]))) := by
    simp only [evalOpe, RO.kind, evalWe, hx, hy]
    rw [if_pos ⟨trivial, by omega, by omega, by omega, rfl, rfl⟩]
    simp [putObj, hl]
  simp only [actDT, evalDe, e1, e2, if_true, e3]
  rfl
theorem WD_alloc {b0 k d sz : Nat} {os : List (Nat × ROp)} {t : T} {H : List Obj} {K : T → List Obj → List FP → Prop} {z : List AV} (hr : H[b0 + k]? = some .rsv) (hl2 : z.length = sz)
    (hk : WD E0 hp b0 os (t.put d (.po (b0 + k) 0)) (H.set (b0 + k) (.lv sz z)) (fun t' H' fs => K t' H' ({ w := [b0 + k] } :: fs))) (h1 : allOne z = true := by rfl) :
    WD E0 hp b0 ((k, ⟨some d, none, .alloc z⟩) :: os) t H K := by
  have hl := get_lt hr
  subst hl2
  refine WD_act (v := .po (b0 + k) 0) (H1 := H.set (b0 + k) (.lv z.length z)) (f := { w := [b0 + k] }) ?_ hk
  have e1 : wantT t (none : Option (Nat × Bool)) = some true := rfl
  have e2 : plOk H (b0 + k) (.alloc z) = true := by simp [plOk, hr]
  have e3 : evalOpe (evT E0.glob t) (fun _ => false) (fun _ _ => none) (fun _ _ _ => none) (b0 + k) (.alloc z) H = some (.po (b0 + k) 0, H.set (b0 + k) (.lv z.length z)) := by
    simp only [evalOpe, RO.kind, evalWe, h1, if_true]
    simp [putObj, hl]
  simp only [actDT, evalDe, e1, e2, if_true, e3]
  rfl
theorem WD_stb {b0 k id o n sz : Nat} {os : List (Nat × ROp)} {t : T} {H : List Obj} {K : T → List Obj → List FP → Prop} {cs : List AV} {x y : RX} (xs cs' : List AV) (hH : H[id]? = some (.lv sz cs)) (hk : WD E0 hp b0 os t (H.set id (.lv sz cs')) (fun t' H' fs => K t' H' ({ w := [id] } :: fs)))
    (hx : evT E0.glob t x = .po id o := by kernel_rfl) (hy : (evT E0.glob t y).cells = xs := by kernel_rfl) (hp' : putAt cs o xs = cs' := by kernel_rfl) (hn : xs.length = n := by rfl) (ho : o + n ≤ sz := by decide) (h1 : allOne xs = true := by kernel_rfl) :
    WD E0 hp b0 ((k, ⟨none, none, .store n x y⟩) :: os) t H K := by
  refine WD_op rfl (fp := { w := [id] }) (by simp [fpOfe, hx, refs]) ?_
  exact O_st xs cs' hH (O_nil hk) hx hy hp' hn ho h1 rfl

theorem bounds_eq {id n : Nat} {m : Nat → Nat → Int} {H : List Obj} {K : AV → List Obj → Prop} (hn : n ≤ 13) (h0 : 0 < n) (hH : H[id]? = some (sqo n m))
    (hk : ∀ b rid H', NB H.length H' b n m rid → Fr H.length H H' → K (.agg [.i ((n - 1 : Nat) : Int), .own b n 0 n]) H') : WC E0 hp false 69 [.po id 0] H K := by
  have hid := get_lt hH
  refine W_call fn69 (.inr (snaps_none 0 rfl rfl)) rfl (by decide) ?_
  refine W_seq ?_
  refine W_gh ?_
  refine W_reg ?_
  refine O_box (cs := [.po id 0]) (sz := 1) H.length (H ++ [.lv 1 [.po id 0]]) (by kernel_rfl) rfl ?_
  refine O_alloc (sz := 2) (H.length + 1) (H ++ [.lv 1 [.po id 0], .lv 2 [.i 0, .nils]]) rfl ?_
  refine O_nil ?_
  refine Gh_one (s1 := ⟨⟨19, [(1, .po H.length 0), (2, .po (H.length + 1) 0)]⟩, H ++ [.lv 1 [.po id 0], .lv 2 [.i 0, .nils]]⟩) (by kernel_rfl) ?_
  refine Gh_wkp (id := H.length + 1) (cs' := [.i 0, .ro []]) (get_end 1 rfl) rfl rfl rfl ?_
  refine Gh_nil ?_
  have e1 : (H ++ [Obj.lv 1 [.po id 0], .lv 2 [.i 0, .nils]]).set (H.length + 1) (.lv 2 [.i 0, .ro []]) = H ++ [.lv 1 [.po id 0], .lv 2 [.i 0, .ro []]] := by simp
  show W E0 hp _ _ _ _ _ ⟨_, (H ++ [Obj.lv 1 [.po id 0], .lv 2 [.i 0, .nils]]).set (H.length + 1) (.lv 2 [.i 0, .ro []])⟩
  rw [e1]
  have s0 : (H ++ [Obj.lv 1 [.po id 0], .lv 2 [.i 0, .ro []]])[H.length]? = some (.lv 1 [.po id 0]) := get_end 0 rfl
  have s1 : (H ++ [Obj.lv 1 [.po id 0], .lv 2 [.i 0, .ro []]])[H.length + 1]? = some (.lv 2 [.i 0, .ro []]) := get_end 1 rfl
  have s2 : (H ++ [Obj.lv 1 [.po id 0], .lv 2 [.i 0, .ro []]])[id]? = some (sqo n m) := get_app hH
  have s3 : (H ++ [Obj.lv 1 [.po id 0], .lv 2 [.i 0, .ro []]]).length = H.length + 2 := by simp
  have s4 : Fr H.length H (H ++ [Obj.lv 1 [.po id 0], .lv 2 [.i 0, .ro []]]) := Fr.app
  generalize H ++ [Obj.lv 1 [.po id 0], .lv 2 [.i 0, .ro []]] = H1 at s0 s1 s2 s3 s4 ⊢
  refine W_seq ?_
  refine W_gh ?_
  refine W_drawW (L := H.length + 2) s3 ?_
  show WD E0 hp (H.length + 2) _ _ (H1 ++ [Obj.rsv, Obj.rsv]) _
  have a1 : ∀ {a : Nat} {o : Obj}, H1[a]? = some o → (H1 ++ [Obj.rsv, Obj.rsv])[a]? = some o := fun h => get_app h
  refine WD_ldb (o := 0) (a1 s0) rfl ?_
  refine WD_q 2 [{}, {}] ?_
  refine WD_ld (e := 0) (o := 0) (es := [.i n :: sqc m]) (cs := .i n :: sqc m) (a1 s2) rfl rfl rfl ?_
  refine WD_q 1 [{}] ?_
  refine WD_ldb (o := 0) (a1 s0) rfl ?_
  refine WD_q 2 [{}, {}] ?_
  refine WD_ld (e := 0) (o := 0) (es := [.i n :: sqc m]) (cs := .i n :: sqc m) (a1 s2) rfl rfl rfl ?_
  have r1 : (H1 ++ [Obj.rsv, Obj.rsv])[H.length + 2 + 0]? = some .rsv := by rw [← s3]; exact get_end 0 rfl
  refine WD_mks (n := n) r1 (by omega) ?_
  refine WD_q 1 [{}] ?_
  have r2 : ((H1 ++ [Obj.rsv, Obj.rsv]).set (H.length + 2 + 0) (.live .norm 1 (List.replicate n [.nils])))[H.length + 2 + 1]? = some .rsv := get_ne (by rw [← s3]; exact get_end 1 rfl) (by omega)
  refine WD_alloc (sz := 2) r2 rfl ?_
  refine WD_stb (o := 0) (sz := 2) (cs := [.i 0, .nils]) [.i (subI .i64 (n : Int) 1), .own (H.length + 2 + 0) n 0 n] [.i (subI .i64 (n : Int) 1), .own (H.length + 2 + 0) n 0 n] (sq_self r2) ?_
  rw [set_set]
  refine WD_nil ⟨?_, ?_⟩
  · simp [pairsDisj, disj, noneOf]
    omega
  have eH : ((H1 ++ [Obj.rsv, Obj.rsv]).set (H.length + 2 + 0) (.live .norm 1 (List.replicate n [.nils]))).set (H.length + 2 + 1) (.lv 2 [.i (subI .i64 (n : Int) 1), .own (H.length + 2 + 0) n 0 n]) = H1 ++ [.live .norm 1 (List.replicate n [.nils]), .lv 2 [.i ((n - 1 : Nat) : Int), .own (H.length + 2) n 0 n]] := by
    rw [show subI .i64 (n : Int) 1 = ((n - 1 : Nat) : Int) by rw [subI_eq (by omega) (by omega)]; omega]
    have := s3
    rw [← s3]
    simp
  rw [eH]
  refine Gh_one (s1 := ⟨⟨19, [(1, .po H.length 0), (2, .po (H.length + 1) 0), (3, .po (H.length + 3) 0)]⟩, H1 ++ [.live .norm 1 (List.replicate n [.nils]), .lv 2 [.i ((n - 1 : Nat) : Int), .own (H.length + 2) n 0 n]]⟩) (by kernel_rfl) ?_
  have t0 : (H1 ++ [Obj.live .norm 1 (List.replicate n [.nils]), .lv 2 [.i ((n - 1 : Nat) : Int), .own (H.length + 2) n 0 n]])[H.length]? = some (.lv 1 [.po id 0]) := get_app s0
  have t1 : (H1 ++ [Obj.live .norm 1 (List.replicate n [.nils]), .lv 2 [.i ((n - 1 : Nat) : Int), .own (H.length + 2) n 0 n]])[H.length + 1]? = some (.lv 2 [.i 0, .ro []]) := get_app s1
  have t2 : (H1 ++ [Obj.live .norm 1 (List.replicate n [.nils]), .lv 2 [.i ((n - 1 : Nat) : Int), .own (H.length + 2) n 0 n]])[id]? = some (sqo n m) := get_app s2
  have t3 : (H1 ++ [Obj.live .norm 1 (List.replicate n [.nils]), .lv 2 [.i ((n - 1 : Nat) : Int), .own (H.length + 2) n 0 n]])[H.length + 3]? = some (.lv 2 [.i ((n - 1 : Nat) : Int), .own (H.length + 2) n 0 n]) := by rw [show H.length + 3 = H1.length + 1 by omega]; exact get_end 1 rfl
  have t4 : (H1 ++ [Obj.live .norm 1 (List.replicate n [.nils]), .lv 2 [.i ((n - 1 : Nat) : Int), .own (H.length + 2) n 0 n]])[H.length + 2]? = some (.live .norm 1 (rws n (fun _ => 0) 0 0)) := by
    have : List.replicate n [AV.nils] = rws n (fun _ => 0) 0 0 := by
      refine List.ext_getElem? (fun a => ?_)
      by_cases ha : a < n
      · rw [rws_get ha]; simp [ha]
      · rw [List.getElem?_eq_none (by simp; omega), List.getElem?_eq_none (by simp [rws]; omega)]
    rw [← this, show H.length + 2 = H1.length + 0 by omega]; exact get_end 0 rfl
  have t5 : Fr H.length H (H1 ++ [Obj.live .norm 1 (List.replicate n [.nils]), .lv 2 [.i ((n - 1 : Nat) : Int), .own (H.length + 2) n 0 n]]) := s4.trans Fr.app (by omega)
  have t6 : (H1 ++ [Obj.live .norm 1 (List.replicate n [.nils]), .lv 2 [.i ((n - 1 : Nat) : Int), .own (H.length + 2) n 0 n]]).length = H.length + 4 := by simp [s3]
  generalize H1 ++ [Obj.live .norm 1 (List.replicate n [.nils]), .lv 2 [.i ((n - 1 : Nat) : Int), .own (H.length + 2) n 0 n]] = H2 at t0 t1 t2 t3 t4 t5 t6 ⊢
  refine Gh_wkp (id := H.length + 3) (cs' := [.i ((n - 1 : Nat) : Int), .own (H.length + 2) n 0 n]) t3 rfl rfl rfl ?_
  refine Gh_nil ?_
  have e2 : H2.set (H.length + 3) (.lv 2 [.i ((n - 1 : Nat) : Int), .own (H.length + 2) n 0 n]) = H2 := by
    obtain ⟨hl, he⟩ := List.getElem?_eq_some_iff.1 t3
    rw [← he]; simp
  show W E0 hp _ _ _ _ _ ⟨_, H2.set (H.length + 3) (.lv 2 [.i ((n - 1 : Nat) : Int), .own (H.length + 2) n 0 n])⟩
  rw [e2]
  refine W_seq ?_
  refine W_gh ?_
  refine W_reg ?_
  refine O_ldb (o := 0) t0 (by kernel_rfl) rfl ?_
  refine O_q 1 ?_
  refine O_wc (xs := [.po id 0, .fn 91 [.po (H.length + 3) 0, .po H.length 0]]) (by kernel_rfl) (by kernel_rfl) ?_
  refine each_eq (n := n) (fun i j H' => H'[H.length]? = some (.lv 1 [.po id 0]) ∧ H'[H.length + 1]? = some (.lv 2 [.i 0, .ro []]) ∧ H'[id]? = some (sqo n m) ∧ H'[H.length + 3]? = some (.lv 2 [.i ((n - 1 : Nat) : Int), .own (H.length + 2) n 0 n]) ∧ Fr H.length H H' ∧
      ∃ rid : Nat → Nat, H'[H.length + 2]? = some (.live .norm 1 (rws n rid i j)) ∧ (∀ a, a < n → (a < i → H'[rid a]? = some (fo n (m a)) ∧ H.length + 4 ≤ rid a) ∧ (a = i → 0 < j → H'[rid a]? = some (fo j (m a)) ∧ H.length + 4 ≤ rid a)) ∧ ∀ a c, a < n → c < n → (a < i ∨ a = i ∧ 0 < j) → (c < i ∨ c = i ∧ 0 < j) → rid a = rid c → a = c)
    hn (fun i j H' h => ⟨m, h.2.2.1⟩) (fun i j H' h => ?_) ⟨t0, t1, t2, t3, t5, fun _ => 0, t4, fun a ha => ⟨fun h => by omega, fun _ h => by omega⟩, fun a c _ _ h => by omega⟩ ?_ ?_ ?_
  · obtain ⟨h1, h2, h3, h4, h5, rid, h6, h7, h8⟩ := h
    rw [t6]
    by_cases hij : i = 0 ∧ j = 0
    · right
      obtain ⟨rfl, rfl⟩ := hij
      exact ⟨get_take h1 (by omega), get_take h2 (by omega), get_take h3 (by omega), get_take h4 (by omega), h5.take (by omega), rid, get_take h6 (by omega), fun a ha => ⟨fun h => by omega, fun _ h => by omega⟩, fun a c _ _ h => by omega⟩
    · left
      refine noT_ref h6 (by omega) ?_
      by_cases hi0 : i = 0
      · subst hi0
        exact belss_get (i := 0) (by rw [rws_get h0, if_neg (by omega), if_pos ⟨rfl, by omega⟩]) ((h7 0 h0).2 rfl (by omega)).2
      · exact belss_get (i := 0) (by rw [rws_get h0, if_pos (by omega)]) ((h7 0 h0).1 (by omega)).2
  · rintro i j H3 K' hi hj ⟨h1, h2, h3, h4, h5, rid, h6, h7, h8⟩ hk'
    have hrv : (rws n rid i j)[i]? = some [if 0 < j then .own (rid i) j 0 j else .nils] := by
      rw [rws_get hi, if_neg (by omega)]
      by_cases h : 0 < j
      · rw [if_pos ⟨rfl, h⟩, if_pos h]
      · rw [if_neg (fun g => h g.2), if_neg h]
    refine row_f (n := n) (b := H.length + 2) (es := ((rowL j (m i)).map cI_i64)) (by omega) (by omega) h3 h1 h4 h6 rfl rws_len hi hrv (by omega) ?_ (fun r' H4 g1 g2 g3 g4 => hk' H4 ?_)
    · by_cases h : 0 < j
      · right
        obtain ⟨x1, x2⟩ := (h7 i hi).2 rfl h
        exact ⟨rid i, by rw [if_pos h], x1, by simp [rowL], by omega, by omega⟩
      · left
        obtain rfl : j = 0 := by omega
        exact ⟨by rw [if_neg h], rfl, rfl⟩
    have hlen3 : H.length + 4 ≤ H3.length := by have := get_lt h4; omega
    have hr' : H.length + 4 ≤ r' ∧ (∀ a, a < i → rid a ≠ r') := by
      by_cases h : 0 < j
      · rw [if_pos h] at g4
        rcases g4 with g4 | ⟨g4, _⟩
        · injection g4 with g4
          subst g4
          exact ⟨((h7 i hi).2 rfl h).2, fun a ha e => by have := h8 a i (by omega) hi (.inl ha) (.inr ⟨rfl, h⟩) e; omega⟩
        · cases g4
      · rw [if_neg h] at g4
        rcases g4 with g4 | ⟨_, g4⟩
        · cases g4
        · exact ⟨by omega, fun a ha e => by have := get_lt ((h7 a (by omega)).1 ha).1; omega⟩
    have hes : ((rowL j (m i)).map cI_i64) ++ [[.i (m i j)]] = (rowL (j + 1) (m i)).map cI_i64 := by
      unfold rowL; rw [List.range_succ, List.map_append, List.map_append]; rfl
    rw [hes] at g2
    refine ⟨(g3 _ (by omega) (by omega) (by omega)).trans h1, (g3 _ (by omega) (by omega) (by omega)).trans h2, (g3 _ (by omega) (by omega) (by omega)).trans h3, (g3 _ (by omega) (by omega) (by omega)).trans h4,
      fun a ha => (g3 a (by omega) (by omega) (by omega)).trans (h5 a ha), upd rid i r', ?_, ?_, ?_⟩
    · rw [g1, rws_step hi upd_eq (fun a ha => upd_ne (by omega))]
    · intro a ha
      refine ⟨fun h => ?_, fun h hj0 => ?_⟩
      · obtain ⟨x1, x2⟩ := (h7 a ha).1 h
        rw [upd_ne (by omega)]
        exact ⟨(g3 _ (get_lt x1) (by omega) (hr'.2 a h)).trans x1, x2⟩
      · subst h
        rw [upd_eq]
        exact ⟨g2, hr'.1⟩
    · intro a c ha hc h1' h2' e
      by_cases ea : a = i
      · by_cases ec : c = i
        · omega
        · rw [ea, upd_eq, upd_ne ec] at e
          exact ((hr'.2 c (by omega)) e.symm).elim
      · by_cases ec : c = i
        · rw [ec, upd_eq, upd_ne ea] at e
          exact ((hr'.2 a (by omega)) e).elim
        · rw [upd_ne ea, upd_ne ec] at e
          exact h8 a c ha hc (.inl (by omega)) (.inl (by omega)) e
  · rintro i H3 hi ⟨h1, h2, h3, h4, h5, rid, h6, h7, h8⟩
    refine ⟨h1, h2, h3, h4, h5, rid, by rw [h6, rws_next h0], fun a ha => ⟨fun h => ?_, fun _ h => by omega⟩, fun a c ha hc e1 e2 => h8 a c ha hc (by omega) (by omega)⟩
    by_cases e : a < i
    · exact (h7 a ha).1 e
    · exact (h7 a ha).2 (by omega) h0
  rintro H3 ⟨h1, h2, h3, h4, h5, rid, h6, h7, h8⟩
  have hnb : NB H.length H3 (H.length + 2) n m rid := by
    refine ⟨?_, fun i hi => ((h7 i hi).1 hi).1, by omega, fun i hi => by have := ((h7 i hi).1 hi).2; omega, fun i j hi hj e => h8 i j hi hj (.inl hi) (.inl hj) e, fun i hi => by have := ((h7 i hi).1 hi).2; omega⟩
    rw [h6]
    unfold rws
    rw [List.map_congr_left (fun a ha => by rw [if_pos (List.mem_range.1 ha)])]
  refine O_nil ?_
  refine Gh_e ⟨⟨19, [(2, .po (H.length + 1) 0), (3, .po (H.length + 3) 0)]⟩, H3⟩ ?_
  refine W_seq ?_
  refine W_gh ?_
  refine W_reg ?_
  refine O_lda h4 (by kernel_rfl) rfl ?_
  refine O_st (o := 0) (sz := 2) (cs := [.i 0, .ro []]) [.i ((n - 1 : Nat) : Int), .own (H.length + 2) n 0 n] [.i ((n - 1 : Nat) : Int), .own (H.length + 2) n 0 n] h2 ?_
  refine O_nil ?_
  refine Gh_e ⟨⟨19, [(2, .po (H.length + 1) 0)]⟩, H3.set (H.length + 1) (.lv 2 [.i ((n - 1 : Nat) : Int), .own (H.length + 2) n 0 n])⟩ ?_
  refine W_ret ?_
  refine ⟨[.agg [.i ((n - 1 : Nat) : Int), .own (H.length + 2) n 0 n]], res_box rfl (sq_self h2) rfl rfl, hk (H.length + 2) rid _ ?_ (h5.set (by omega))⟩
  exact ⟨get_ne hnb.top (by omega), fun i hi => get_ne (hnb.row i hi) (by have := ((h7 i hi).1 hi).2; omega), hnb.lb, hnb.lr, hnb.inj, hnb.ne⟩
end G11

namespace G11
open Go hiding Obj mark
open Go.Pl Go.Am Go.Am.As
set_option linter.unusedVariables false

/-- an own slice whose elements are handed over, each by itself -/
theorem mapOO_range {f : AV → Option AV} {g h : Nat → AV} : ∀ (l : List Nat), (∀ i ∈ l, f (g i) = some (h i)) → mapOO f (l.map fun i => [g i]) = some (l.map fun i => [h i])
  | [], _ => rfl
  | i :: l, hyp => by
    have ih := mapOO_range (f := f) (g := g) (h := h) l (fun j hj => hyp j (by simp [hj]))
    simp [mapOO, mapO, hyp i (by simp), ih]
theorem pk_NB {L b n d : Nat} {m : Nat → Nat → Int} {rid : Nat → Nat} {H : List Obj} (h : NB L H b n m rid) : pk (d + 2) H (.own b n 0 n) = some (.ro ((matL n m).map (cL cI_i64))) := by
  unfold pk
  rw [if_neg (by simp [AV.refFree, AV.bel])]
  have e1 : ((List.range n).map fun i => [AV.own (rid i) n 0 n]).length = n := by simp
  have e2 : (((List.range n).map fun i => [AV.own (rid i) n 0 n]).drop 0).take n = (List.range n).map fun i => [AV.own (rid i) n 0 n] := by rw [List.drop_zero]; exact List.take_of_length_le (by simp)
  simp only [getLive, h.top, e1, if_true, e2]
  rw [mapOO_range (h := fun i => .ro ((rowL n (m i)).map cI_i64)) _ (fun i hi => pk_own okI_i64.bel (h.row i (List.mem_range.1 hi)) (by simp [rowL]))]
  simp only [roOf, matL, List.map_map]
  rfl
theorem NB.ext {L b n : Nat} {m : Nat → Nat → Int} {rid : Nat → Nat} {H H' : List Obj} (h : NB L H b n m rid) (hf : Fr H.length H H') : NB L H' b n m rid :=
  ⟨(hf _ (get_lt h.top)).trans h.top, fun i hi => (hf _ (get_lt (h.row i hi))).trans (h.row i hi), h.lb, h.lr, h.inj, h.ne⟩
theorem NB.low {L L' b n : Nat} {m : Nat → Nat → Int} {rid : Nat → Nat} {H : List Obj} (h : NB L H b n m rid) (hL : L' ≤ L) : NB L' H b n m rid :=
  ⟨h.top, h.row, Nat.le_trans hL h.lb, fun i hi => Nat.le_trans hL (h.lr i hi), h.inj, h.ne⟩
theorem NB.set {L b n id : Nat} {m : Nat → Nat → Int} {rid : Nat → Nat} {H : List Obj} {o : Obj} (h : NB L H b n m rid) (hi : id < L) : NB L (H.set id o) b n m rid :=
  ⟨get_ne h.top (by have := h.lb; omega), fun i hi' => get_ne (h.row i hi') (by have := h.lr i hi'; omega), h.lb, h.lr, h.inj, h.ne⟩

/-- a call apart -/
theorem O_pt {f : Nat} {args : List RX} {xs : List AV} {r : AV} {d : Option Nat} {g : Option (Nat × Bool)} {dr : Bool} {os : List ROp} {t : T} {H : List Obj} {K : T → List Obj → Prop} (ha : args.map (evT E0.glob t) = xs) (hb : AV.bels 0 xs = true) (hf : hp f = false) (h : Pt E0 hp f xs r)
    (hk : WO E0 hp dr os (putD t d r) H K) (hw : wantT t g = some true := by kernel_rfl) : WO E0 hp dr (⟨d, g, .call f args⟩ :: os) t H K := by
  subst ha
  exact (WO_do hw).2 (WO_call.2 (WC_free (.inr hf) hb h hk))
end G11

namespace G11
open Go hiding Obj mark
open Go.Pl Go.Am Go.Am.As
set_option linter.unusedVariables false

end G11

namespace G11
open Go hiding Obj mark
open Go.Pl Go.Am Go.Am.As
set_option linter.unusedVariables false

/-- a row, to be read -/
def RowV (H : List Obj) (v : AV) (n : Nat) (f : Nat → Int) : Prop := v = .ro ((rowL n f).map cI_i64) ∨ ∃ id fl, v = .own id n 0 n ∧ H[id]? = some (.live fl 1 ((rowL n f).map cI_i64))
/-- rows, to be read -/
def MatV (H : List Obj) (v : AV) (n : Nat) (m : Nat → Nat → Int) : Prop := v = .ro ((matL n m).map (cL cI_i64)) ∨ ∃ (id : Nat) (fl : Fl) (r : Nat → AV), v = .own id n 0 n ∧ H[id]? = some (.live fl 1 ((List.range n).map fun i => [r i])) ∧ ∀ i, i < n → RowV H (r i) n (m i)

theorem RowV.ext {H H' : List Obj} {v : AV} {n : Nat} {f : Nat → Int} (h : RowV H v n f) (hf : Fr H.length H H') : RowV H' v n f := by
  rcases h with h | ⟨id, fl, h1, h2⟩
  · exact .inl h
  · exact .inr ⟨id, fl, h1, (hf _ (get_lt h2)).trans h2⟩
theorem MatV.ext {H H' : List Obj} {v : AV} {n : Nat} {m : Nat → Nat → Int} (h : MatV H v n m) (hf : Fr H.length H H') : MatV H' v n m := by
  rcases h with h | ⟨id, fl, r, h1, h2, h3⟩
  · exact .inl h
  · exact .inr ⟨id, fl, r, h1, (hf _ (get_lt h2)).trans h2, fun i hi => (h3 i hi).ext hf⟩
/-- .. that lies below a place -/
theorem RowV.fr {L : Nat} {H H' : List Obj} {v : AV} {n : Nat} {f : Nat → Int} (h : RowV H v n f) (hL : H.length ≤ L) (hf : Fr L H H') : RowV H' v n f := h.ext (fun a ha => hf a (by omega))
theorem RowV.elems {H : List Obj} {v : AV} {n : Nat} {f : Nat → Int} (h : RowV H v n f) : elemsOf H v = some ((rowL n f).map cI_i64) := by
  rcases h with rfl | ⟨id, fl, rfl, h2⟩
  · rfl
  · have e1 : ((rowL n f).map cI_i64).length = n := fo_len
    simp only [elemsOf, getLive, h2, e1, if_true, List.drop_zero]
    rw [List.take_of_length_le (by simp [rowL])]
theorem RowV.one {H : List Obj} {v : AV} {n : Nat} {f : Nat → Int} (h : RowV H v n f) : v.cells = [v] ∧ v.one = true := by
  rcases h with rfl | ⟨id, fl, rfl, h2⟩ <;> exact ⟨rfl, rfl⟩

theorem matL_get {n : Nat} {m : Nat → Nat → Int} {i : Nat} (hi : i < n) : ((matL n m).map (cL cI_i64))[i]? = some [.ro ((rowL n (m i)).map cI_i64)] := by
  simp [matL, hi, cL]

section
variable {dr : Bool} {os : List ROp} {t : T} {H : List Obj} {K : T → List Obj → Prop}
end

section
variable {b0 k : Nat} {os : List (Nat × ROp)} {t : T} {H : List Obj} {K : T → List Obj → List FP → Prop} {d : Nat}
theorem WD_row {n i d1 d2 : Nat} {v : AV} {m : Nat → Nat → Int} {x ix : RX} (hv : MatV H v n m) (hi : i < n) (hk : ∀ p rv, RowV H rv n (m i) → WD E0 hp b0 os ((t.put d1 p).put d2 rv) H (fun t' H' fs => K t' H' ({ r := refs v } :: { r := refs v } :: fs)))
    (hx : evT E0.glob t x = v := by kernel_rfl) (hix : evT E0.glob t ix = .i (i : Int) := by kernel_rfl) (e1 : ∀ p, evT E0.glob (t.put d1 p) (.t d1) = p := by intro p; kernel_rfl) :
    WD E0 hp b0 ((k, ⟨some d1, none, .iadS 1 x ix⟩) :: (k, ⟨some d2, none, .load 1 false (.t d1)⟩) :: os) t H K := by
  rcases hv with rfl | ⟨id, fl, r, rfl, h2, h3⟩
  · refine WD_op rfl (fp := { r := [] }) (by simp [fpOfe, hx, refs]) ?_
    refine WO_step (v := .pro [.ro ((rowL n (m i)).map cI_i64)]) (H1 := H) (by simp [RO.kind]) rfl ?_ (O_nil ?_)
    · simp only [ev1, evalOpe, RO.kind, evalRe, hx, hix, iadS]
      rw [if_pos (by omega), Int.toNat_natCast, matL_get hi]; rfl
    · have e1' : evT E0.glob (putD t (some d1) (.pro [.ro ((rowL n (m i)).map cI_i64)])) (.t d1) = _ := e1 _
      refine WD_op rfl (fp := { r := [] }) (by simp only [fpOfe, e1', refs]) ?_
      refine WO_step (v := .ro ((rowL n (m i)).map cI_i64)) (H1 := H) (by simp [RO.kind]) rfl ?_ (O_nil (hk _ _ (.inl rfl)))
      simp only [ev1, evalOpe, RO.kind, evalRe, e1', loadAt, Am.part]
      simp
  · refine WD_ia (i := i) h2 (by simp) hi ?_ hx hix
    refine WD_ld (e := i) (o := 0) (v := r i) (cs := [r i]) h2 (by simp) (by simp [hi]) rfl (hk _ _ (h3 i hi)) (e1 _)
/-- a slice without elements is made -/
theorem WD_bsl0 {z : AV} (hr : H[b0 + k]? = some .rsv) (hk : WD E0 hp b0 os (t.put d (.own (b0 + k) 0 0 0)) (H.set (b0 + k) (.live .norm 1 [])) (fun t' H' fs => K t' H' ({ w := [b0 + k] } :: fs))) (hz : z.one = true := by rfl) :
    WD E0 hp b0 ((k, ⟨some d, none, .bsl 1 [z] 0 []⟩) :: os) t H K := by
  have hl := get_lt hr
  refine WD_act (v := .own (b0 + k) 0 0 0) (H1 := H.set (b0 + k) (.live .norm 1 [])) (f := { w := [b0 + k] }) ?_ hk
  have e1 : wantT t (none : Option (Nat × Bool)) = some true := rfl
  have e2 : plOk H (b0 + k) (.bsl 1 [z] 0 []) = true := by simp [plOk, hr]
  have e3 : evalOpe (evT E0.glob t) (fun _ => false) (fun _ _ => none) (fun _ _ _ => none) (b0 + k) (.bsl 1 [z] 0 []) H = some (.own (b0 + k) 0 0 0, H.set (b0 + k) (.live .norm 1 [])) := by
    simp only [evalOpe, RO.kind, evalWe, List.map_nil]
    rw [if_pos ⟨rfl, by simp [allOne, hz], by decide⟩]
    simp [fillS, putObj, hl]
  simp only [actDT, evalDe, e1, e2, if_true, e3]
  rfl
/-- a whole row is put into a slice without elements -/
theorem WD_appR {id n bytes : Nat} {f : Nat → Int} {v : AV} {x y : RX} (hr : H[b0 + k]? = some .rsv) (hH : H[id]? = some (.live .norm 1 [])) (hv : RowV H v n f) (hn : n ≤ 1000) (hb : bytes ≤ 1000)
    (hk : WD E0 hp b0 os (t.put d (.own id n 0 n)) (H.set id (fo n f)) (fun t' H' fs => K t' H' ({ r := refs v, w := [b0 + k, id] } :: fs))) (hx : evT E0.glob t x = .own id 0 0 0 := by kernel_rfl) (hy : evT E0.glob t y = v := by kernel_rfl) :
    WD E0 hp b0 ((k, ⟨some d, none, .app 1 bytes x y⟩) :: os) t H K := by
  refine WD_act (v := .own id n 0 n) (H1 := H.set id (fo n f)) (f := { r := refs v, w := [b0 + k, id] }) ?_ hk
  have e1 : wantT t (none : Option (Nat × Bool)) = some true := rfl
  have e2 : plOk H (b0 + k) (.app 1 bytes x y) = true := by simp [plOk, hr]
  have hall : (((rowL n f).map cI_i64).all fun e => e.length == 1 && allOne e) = true := by simp [okI_i64.len, okI_i64.one]
  have hmul : n * bytes ≤ 1000 * 1000 := Nat.mul_le_mul hn hb
  have e3 : evalOpe (evT E0.glob t) (fun _ => false) (fun _ _ => none) (fun _ _ _ => none) (b0 + k) (.app 1 bytes x y) H = some (.own id n 0 n, H.set id (fo n f)) := by
    simp only [evalOpe, RO.kind, evalWe, hx, hy, append, hv.elems, getLive, hH, hall, if_true, nlAt, List.length_nil, fo_len, Nat.zero_add]
    rw [if_pos ⟨trivial, trivial, trivial, trivial, by omega, by omega⟩]
    rfl
  simp only [actDT, evalDe, e1, e2, if_true, e3]
  simp only [fpOfe, hx, hy, refs]
end

theorem Gh_promf {b t id : Nat} {c0 : AV} {gs : List GA} {s : ST} {N : ST → Prop} (hH : s.H[id]? = some (.lv 2 [c0, .nils])) (hx : s.tmps.get t = .po id 0) (k : Gh b gs ⟨s.tmps, (s.H ++ [Obj.live .nil 1 []]).set id (.lv 2 [c0, .own s.H.length 0 0 0])⟩ N) : Gh b (.promf t 1 1 :: gs) s N := by
  refine Gh_one ?_ k
  have h2 : (s.H ++ [Obj.live .nil 1 []])[id]? = some (.lv 2 [c0, .nils]) := get_app hH
  simp [ghost1T, hx, loadAt, getLive, hH, Am.part, storeAt, h2, AV.cells, allOne, AV.one, nlAt, Fl.free, putAt]
end G11

namespace G11
open Go hiding Obj mark
open Go.Pl Go.Am Go.Am.As
set_option linter.unusedVariables false

theorem RowV.refs {H : List Obj} {v : AV} {n : Nat} {f : Nat → Int} (h : RowV H v n f) : ∀ a ∈ Am.refs v, a < H.length := by
  rcases h with rfl | ⟨id, fl, rfl, h2⟩
  · intro a ha; cases ha
  · intro a ha
    simp only [Am.refs, List.mem_singleton] at ha
    subst ha; exact get_lt h2
theorem MatV.refs {H : List Obj} {v : AV} {n : Nat} {m : Nat → Nat → Int} (h : MatV H v n m) : ∀ a ∈ Am.refs v, a < H.length := by
  rcases h with rfl | ⟨id, fl, r, rfl, h2, h3⟩
  · intro a ha; cases ha
  · intro a ha
    simp only [Am.refs, List.mem_singleton] at ha
    subst ha; exact get_lt h2
theorem MatV.one {H : List Obj} {v : AV} {n : Nat} {m : Nat → Nat → Int} (h : MatV H v n m) : v.one = true ∧ v.wk1 = v := by
  rcases h with rfl | ⟨id, fl, r, rfl, h2, h3⟩ <;> exact ⟨rfl, rfl⟩

/-- rows that may be written -/
structure NC (L : Nat) (H : List Obj) (b n : Nat) (m : Nat → Nat → Int) (rid : Nat → Nat) (ft fr : Fl) : Prop where
  top : H[b]? = some (.live ft 1 ((List.range n).map fun i => [.own (rid i) n 0 n]))
  row : ∀ i, i < n → H[rid i]? = some (.live fr 1 ((rowL n (m i)).map cI_i64))
  lb : L ≤ b
  lr : ∀ i, i < n → L ≤ rid i
  inj : ∀ i j, i < n → j < n → rid i = rid j → i = j
  ne : ∀ i, i < n → rid i ≠ b
  ft : ft.free = true
  fr : fr.free = true
theorem NC.ext {L b n : Nat} {m : Nat → Nat → Int} {rid : Nat → Nat} {H H' : List Obj} {ft fr : Fl} (h : NC L H b n m rid ft fr) (hf : Fr H.length H H') : NC L H' b n m rid ft fr :=
  ⟨(hf _ (get_lt h.top)).trans h.top, fun i hi => (hf _ (get_lt (h.row i hi))).trans (h.row i hi), h.lb, h.lr, h.inj, h.ne, h.ft, h.fr⟩
theorem NC.low {L L' b n : Nat} {m : Nat → Nat → Int} {rid : Nat → Nat} {H : List Obj} {ft fr : Fl} (h : NC L H b n m rid ft fr) (hL : L' ≤ L) : NC L' H b n m rid ft fr :=
  ⟨h.top, h.row, Nat.le_trans hL h.lb, fun i hi => Nat.le_trans hL (h.lr i hi), h.inj, h.ne, h.ft, h.fr⟩
theorem NC.set {L b n id : Nat} {m : Nat → Nat → Int} {rid : Nat → Nat} {H : List Obj} {o : Obj} {ft fr : Fl} (h : NC L H b n m rid ft fr) (hi : id < L) : NC L (H.set id o) b n m rid ft fr :=
  ⟨get_ne h.top (by have := h.lb; omega), fun i hi' => get_ne (h.row i hi') (by have := h.lr i hi'; omega), h.lb, h.lr, h.inj, h.ne, h.ft, h.fr⟩
theorem NC.pk {L b n d : Nat} {m : Nat → Nat → Int} {rid : Nat → Nat} {H : List Obj} {ft fr : Fl} (h : NC L H b n m rid ft fr) : pk (d + 2) H (.own b n 0 n) = some (.ro ((matL n m).map (cL cI_i64))) := by
  unfold Am.pk
  rw [if_neg (by simp [AV.refFree, AV.bel])]
  have e1 : ((List.range n).map fun i => [AV.own (rid i) n 0 n]).length = n := by simp
  have e2 : (((List.range n).map fun i => [AV.own (rid i) n 0 n]).drop 0).take n = (List.range n).map fun i => [AV.own (rid i) n 0 n] := by rw [List.drop_zero]; exact List.take_of_length_le (by simp)
  simp only [getLive, h.top, e1, if_true, e2]
  rw [mapOO_range (h := fun i => .ro ((rowL n (m i)).map cI_i64)) _ (fun i hi => pk_own okI_i64.bel (h.row i (List.mem_range.1 hi)) (by simp [rowL]))]
  simp only [roOf, matL, List.map_map]
  rfl
/-- an element is written -/
theorem NC.put {L b n i j : Nat} {m : Nat → Nat → Int} {v : Int} {rid : Nat → Nat} {H : List Obj} {ft fr : Fl} (h : NC L H b n m rid ft fr) (hi : i < n) (hj : j < n) : NC L (H.set (rid i) (.live fr 1 (((rowL n (m i)).map cI_i64).set j [.i v]))) b n (up2 m i j v) rid ft fr := by
  refine ⟨get_ne h.top (fun e => h.ne i hi e.symm), fun a ha => ?_, h.lb, h.lr, h.inj, h.ne, h.ft, h.fr⟩
  by_cases e : a = i
  · subst e
    rw [fo_set hj, sq_self (h.row a ha)]
    have : rowL n (upd (m a) j v) = rowL n (up2 m a j v a) := by
      unfold rowL
      refine List.map_congr_left (fun k _ => ?_)
      unfold upd up2
      by_cases hk : k = j
      · rw [if_pos hk, if_pos ⟨rfl, hk⟩]
      · rw [if_neg hk, if_neg (fun g => hk g.2)]
    rw [this]
  · have hne : rid a ≠ rid i := fun g => e (h.inj a i ha hi g)
    rw [List.getElem?_set_ne (fun g => hne g.symm), h.row a ha]
    have : rowL n (m a) = rowL n (up2 m i j v a) := by
      unfold rowL
      refine List.map_congr_left (fun k _ => ?_)
      unfold up2
      rw [if_neg (fun g => e g.1)]
    rw [this]

theorem copied_eq {N : Nat} {v : AV} {m : Nat → Nat → Int} {H : List Obj} {K : AV → List Obj → Prop} (hN : N + 1 ≤ 100) (hv : MatV H v (N + 1) m)
    (hk : ∀ b rid H', NC H.length H' b (N + 1) m rid .nil .norm → Fr H.length H H' → K (.agg [.i (N : Int), .own b (N + 1) 0 (N + 1)]) H') : WC E0 hp false 81 [.agg [.i (N : Int), v]] H K := by
  refine W_call fn81 (.inl rfl) rfl (by decide) ?_
  have hv1 := hv.one
  refine W_seq ?_
  refine W_gh ?_
  refine W_reg ?_
  refine O_box (cs := [.i (N : Int), v]) (sz := 2) H.length (H ++ [.lv 2 [.i (N : Int), v]]) (by kernel_rfl) rfl ?_ (h1 := by show (true && (v.one && true)) = true; rw [hv1.1]; rfl)
  refine O_alloc (sz := 2) (H.length + 1) (H ++ [.lv 2 [.i (N : Int), v], .lv 2 [.i 0, .nils]]) rfl ?_
  refine O_nil ?_
  refine Gh_one (s1 := ⟨⟨28, [(1, .po H.length 0), (2, .po (H.length + 1) 0)]⟩, H ++ [.lv 2 [.i (N : Int), v], .lv 2 [.i 0, .nils]]⟩) (by kernel_rfl) ?_
  refine Gh_wkp (id := H.length + 1) (cs' := [.i 0, .ro []]) (get_end 1 rfl) rfl rfl rfl ?_
  refine Gh_nil ?_
  have e1 : (H ++ [Obj.lv 2 [.i (N : Int), v], .lv 2 [.i 0, .nils]]).set (H.length + 1) (.lv 2 [.i 0, .ro []]) = H ++ [.lv 2 [.i (N : Int), v], .lv 2 [.i 0, .ro []]] := by simp
  show W E0 hp _ _ _ _ _ ⟨_, (H ++ [Obj.lv 2 [.i (N : Int), v], .lv 2 [.i 0, .nils]]).set (H.length + 1) (.lv 2 [.i 0, .ro []])⟩
  rw [e1]
  refine W_seq ?_
  refine W_gh ?_
  refine W_reg ?_
  refine O_q 1 ?_
  refine O_ldb (o := 0) (v := .i (N : Int)) (id := H.length) (get_end 0 rfl) (by kernel_rfl) rfl ?_
  refine O_q 1 ?_
  refine O_alloc (sz := 2) (H.length + 2) (H ++ [.lv 2 [.i (N : Int), v], .lv 2 [.i 0, .ro []], .lv 2 [.i 0, .nils]]) rfl ?_
  refine O_st (o := 0) (sz := 2) (cs := [.i 0, .nils]) (id := H.length + 2) [.i (N : Int), .nils] [.i (N : Int), .nils] (get_end 2 rfl) ?_
  refine O_nil ?_
  have e2 : (H ++ [Obj.lv 2 [.i (N : Int), v], .lv 2 [.i 0, .ro []], .lv 2 [.i 0, .nils]]).set (H.length + 2) (.lv 2 [.i (N : Int), .nils]) = H ++ [.lv 2 [.i (N : Int), v], .lv 2 [.i 0, .ro []], .lv 2 [.i (N : Int), .nils]] := by simp
  rw [e2]
  refine Gh_one (s1 := ⟨⟨28, [(1, .po H.length 0), (2, .po (H.length + 1) 0), (3, .po (H.length + 2) 0)]⟩, H ++ [.lv 2 [.i (N : Int), v], .lv 2 [.i 0, .ro []], .lv 2 [.i (N : Int), .nils]]⟩) (by kernel_rfl) ?_
  refine Gh_promf (id := H.length + 2) (c0 := .i (N : Int)) (get_end 2 rfl) rfl ?_
  have e3 : ((H ++ [Obj.lv 2 [.i (N : Int), v], .lv 2 [.i 0, .ro []], .lv 2 [.i (N : Int), .nils]]) ++ [Obj.live .nil 1 []]).set (H.length + 2) (.lv 2 [.i (N : Int), .own (H ++ [Obj.lv 2 [.i (N : Int), v], .lv 2 [.i 0, .ro []], .lv 2 [.i (N : Int), .nils]]).length 0 0 0]) = H ++ [.lv 2 [.i (N : Int), v], .lv 2 [.i 0, .ro []], .lv 2 [.i (N : Int), .own (H.length + 3) 0 0 0], .live .nil 1 []] := by simp
  show Gh H.length _ ⟨_, ((H ++ [Obj.lv 2 [.i (N : Int), v], .lv 2 [.i 0, .ro []], .lv 2 [.i (N : Int), .nils]]) ++ [Obj.live .nil 1 []]).set (H.length + 2) (.lv 2 [.i (N : Int), .own (H ++ [Obj.lv 2 [.i (N : Int), v], .lv 2 [.i 0, .ro []], .lv 2 [.i (N : Int), .nils]]).length 0 0 0])⟩ _
  rw [e3]
  refine Gh_wkp (id := H.length + 2) (cs' := [.i (N : Int), .own (H.length + 3) 0 0 0]) (get_end 2 rfl) rfl rfl rfl ?_
  refine Gh_nil ?_
  have e4 : (H ++ [Obj.lv 2 [.i (N : Int), v], .lv 2 [.i 0, .ro []], .lv 2 [.i (N : Int), .own (H.length + 3) 0 0 0], .live .nil 1 []]).set (H.length + 2) (.lv 2 [.i (N : Int), .own (H.length + 3) 0 0 0]) = H ++ [.lv 2 [.i (N : Int), v], .lv 2 [.i 0, .ro []], .lv 2 [.i (N : Int), .own (H.length + 3) 0 0 0], .live .nil 1 []] := by simp
  show W E0 hp _ _ _ _ _ ⟨_, (H ++ [Obj.lv 2 [.i (N : Int), v], .lv 2 [.i 0, .ro []], .lv 2 [.i (N : Int), .own (H.length + 3) 0 0 0], .live .nil 1 []]).set (H.length + 2) (.lv 2 [.i (N : Int), .own (H.length + 3) 0 0 0])⟩
  rw [e4]
  have s0 : (H ++ [Obj.lv 2 [.i (N : Int), v], .lv 2 [.i 0, .ro []], .lv 2 [.i (N : Int), .own (H.length + 3) 0 0 0], .live .nil 1 []])[H.length]? = some (.lv 2 [.i (N : Int), v]) := get_end 0 rfl
  have s1 : (H ++ [Obj.lv 2 [.i (N : Int), v], .lv 2 [.i 0, .ro []], .lv 2 [.i (N : Int), .own (H.length + 3) 0 0 0], .live .nil 1 []])[H.length + 1]? = some (.lv 2 [.i 0, .ro []]) := get_end 1 rfl
  have s2 : (H ++ [Obj.lv 2 [.i (N : Int), v], .lv 2 [.i 0, .ro []], .lv 2 [.i (N : Int), .own (H.length + 3) 0 0 0], .live .nil 1 []])[H.length + 2]? = some (.lv 2 [.i (N : Int), .own (H.length + 3) 0 0 0]) := get_end 2 rfl
  have s3 : (H ++ [Obj.lv 2 [.i (N : Int), v], .lv 2 [.i 0, .ro []], .lv 2 [.i (N : Int), .own (H.length + 3) 0 0 0], .live .nil 1 []])[H.length + 3]? = some (.live .nil 1 []) := get_end 3 rfl
  have s4 : (H ++ [Obj.lv 2 [.i (N : Int), v], .lv 2 [.i 0, .ro []], .lv 2 [.i (N : Int), .own (H.length + 3) 0 0 0], .live .nil 1 []]).length = H.length + 4 := by simp
  have s5 : Fr H.length H (H ++ [Obj.lv 2 [.i (N : Int), v], .lv 2 [.i 0, .ro []], .lv 2 [.i (N : Int), .own (H.length + 3) 0 0 0], .live .nil 1 []]) := Fr.app
  generalize H ++ [Obj.lv 2 [.i (N : Int), v], .lv 2 [.i 0, .ro []], .lv 2 [.i (N : Int), .own (H.length + 3) 0 0 0], .live .nil 1 []] = H1 at s0 s1 s2 s3 s4 s5 ⊢
  refine W_seq ?_
  refine W_seq ?_
  refine W_reg ?_
  refine O_q 1 ?_
  refine O_nil ?_
  let J : Nat → List Obj → Prop := fun k H' => H'[H.length]? = some (.lv 2 [.i (N : Int), v]) ∧ H'[H.length + 1]? = some (.lv 2 [.i 0, .ro []]) ∧ H'[H.length + 2]? = some (.lv 2 [.i (N : Int), .own (H.length + 3) k 0 k]) ∧ Fr H.length H H' ∧
    ∃ rid : Nat → Nat, H'[H.length + 3]? = some (.live .nil 1 ((List.range k).map fun i => [.own (rid i) (N + 1) 0 (N + 1)])) ∧ (∀ i, i < k → H'[rid i]? = some (fo (N + 1) (m i)) ∧ H.length + 4 ≤ rid i) ∧ (∀ i j, i < k → j < k → rid i = rid j → i = j)
  have hJT : ∀ k H', J k H' → NoT (H.length + 4) H' ∨ J k (H'.take (H.length + 4)) := by
    rintro k H' ⟨h1, h2, h3, h4, rid, h5, h6, h7⟩
    by_cases hk0 : k = 0
    · subst hk0
      exact .inr ⟨get_take h1 (by omega), get_take h2 (by omega), get_take h3 (by omega), h4.take (by omega), rid, get_take h5 (by omega), fun i hi => by omega, h7⟩
    · left
      refine noT_ref h5 (by omega) ?_
      exact belss_get (i := 0) (by rw [List.getElem?_map, List.getElem?_range (by omega)]; rfl) (h6 0 (by omega)).2
  refine W_gh (W_block ?_)
  refine W_lp (fun s' => ∃ (k : Nat) (H' : List Obj), s' = ⟨⟨28, [(1, .po H.length 0), (2, .po (H.length + 1) 0), (3, .po (H.length + 2) 0), (4, .i (k : Int))]⟩, H'⟩ ∧ k ≤ N + 1 ∧ J k H') (fun s' => match s'.tmps.get 4 with | .int _ k => N + 1 - k.toNat | _ => 0)
    ⟨0, H1, rfl, by omega, s0, s1, s2, s5, fun _ => 0, s3, fun i hi => by omega, fun i j hi => by omega⟩ ?_
  rintro s' ⟨k, H2, rfl, hkn, hJ⟩
  have hJ' := hJ
  obtain ⟨h1, h2, h3, h4, rid, h5, h6, h7⟩ := hJ
  have hv2 : MatV H2 v (N + 1) m := hv.ext h4
  refine W_gh ?_
  refine W_seq ?_
  refine W_seq ?_
  refine W_gh ?_
  refine W_reg ?_
  refine O_q 2 ?_
  refine O_ldb (o := 1) h1 (by kernel_rfl) rfl ?_
  have hlen : ∀ {t : T} {dst : Option Nat} {os : List ROp} {K' : T → List Obj → Prop}, evT E0.glob t (.t 10) = v → WO E0 hp false os (putD t dst (.i ((N + 1 : Nat) : Int))) H2 K' → WO E0 hp false (⟨dst, none, .len false (.t 10)⟩ :: os) t H2 K' := by
    intro t dst os K' hx hk'
    refine WO_step (v := .i ((N + 1 : Nat) : Int)) (H1 := H2) (by simp [RO.kind]) rfl ?_ hk'
    simp only [ev1, evalOpe, RO.kind, evalPe, hx]
    rcases hv2 with e | ⟨id, fl, r, e, _, _⟩
    · subst e
      have hl : ((matL (N + 1) m).map (cL cI_i64)).length = N + 1 := by simp [matL]
      show some (AV.i (((matL (N + 1) m).map (cL cI_i64)).length : Int), H2) = _
      rw [hl]
    · subst e; rfl
  refine hlen (by kernel_rfl) ?_
  refine O_q 1 ?_
  refine O_nil ?_
  refine Gh_e ⟨⟨28, [(1, .po H.length 0), (2, .po (H.length + 1) 0), (3, .po (H.length + 2) 0), (4, .i (k : Int)), (12, .bool (decide ((k : Int) < ((N + 1 : Nat) : Int))))]⟩, H2⟩ ?_
  refine W_gh ?_
  refine W_cond (c := decide ((k : Int) < ((N + 1 : Nat) : Int))) (by kernel_rfl) (fun c => ?_) (fun c => ?_)
  · have c3 : k < N + 1 := by have := of_decide_eq_true c; omega
    refine W_skip ?_
    refine Gh_e ⟨⟨28, [(1, .po H.length 0), (2, .po (H.length + 1) 0), (3, .po (H.length + 2) 0), (4, .i (k : Int))]⟩, H2⟩ ?_
    refine W_seq ?_
    refine W_gh ?_
    refine W_block ?_
    refine W_gh ?_
    refine W_drawW (L := H2.length) rfl ?_
    show WD E0 hp H2.length _ _ (H2 ++ [Obj.rsv, Obj.rsv, Obj.rsv, Obj.rsv]) _
    have hl2 : H.length + 4 ≤ H2.length := by have := get_lt h5; omega
    have a1 : ∀ {a : Nat} {o : Obj}, H2[a]? = some o → (H2 ++ [Obj.rsv, Obj.rsv, Obj.rsv, Obj.rsv])[a]? = some o := fun h => get_app h
    refine WD_q 1 [{}] ?_
    refine WD_ldb (o := 1) (a1 h3) rfl ?_
    refine WD_bsl0 (get_end 0 rfl) ?_
    rw [show (H2 ++ [Obj.rsv, Obj.rsv, Obj.rsv, Obj.rsv]).set (H2.length + 0) (.live .norm 1 []) = H2 ++ [.live .norm 1 [], .rsv, .rsv, .rsv] by simp]
    have a2 : ∀ {a : Nat} {o : Obj}, H2[a]? = some o → (H2 ++ [Obj.live .norm 1 [], .rsv, .rsv, .rsv])[a]? = some o := fun h => get_app h
    refine WD_q 1 [{}] ?_
    refine WD_ldb (o := 1) (a2 h1) rfl ?_
    refine WD_q 1 [{}] ?_
    refine WD_row (v := v) (i := k) (hv2.ext Fr.app) c3 (fun p rv hrv => ?_)
    -- the row itself lies in the old memory
    refine WD_appR (id := H2.length) (n := N + 1) (get_end 1 rfl) (get_end 0 rfl) hrv (by omega) (by decide) ?_
    rw [show (H2 ++ [Obj.live .norm 1 [], .rsv, .rsv, .rsv]).set H2.length (fo (N + 1) (m k)) = H2 ++ [fo (N + 1) (m k), .rsv, .rsv, .rsv] by simp]
    refine WD_bsl1 (v := .own H2.length (N + 1) 0 (N + 1)) (get_end 2 rfl) ?_
    rw [show (H2 ++ [fo (N + 1) (m k), Obj.rsv, .rsv, .rsv]).set (H2.length + 2) (.live .norm 1 [[.own H2.length (N + 1) 0 (N + 1)]]) = H2 ++ [fo (N + 1) (m k), .rsv, .live .norm 1 [[.own H2.length (N + 1) 0 (N + 1)]], .rsv] by simp]
    have a3 : ∀ {a : Nat} {o : Obj}, H2[a]? = some o → (H2 ++ [fo (N + 1) (m k), Obj.rsv, .live .norm 1 [[.own H2.length (N + 1) 0 (N + 1)]], .rsv])[a]? = some o := fun h => get_app h
    refine WD_app1 (id := H.length + 3) (m := k) (tid := H2.length + 2) (get_end 3 rfl) (a3 h5) (by simp) (get_end 2 rfl) rfl (by omega) (by omega) rfl ?_
    refine WD_q 1 [{}] ?_
    refine WD_stb (o := 1) (id := H.length + 2) (sz := 2) (cs := [.i (N : Int), .own (H.length + 3) k 0 k]) [.own (H.length + 3) (k + 1) 0 (k + 1)] [.i (N : Int), .own (H.length + 3) (k + 1) 0 (k + 1)] (get_ne (a3 h3) (by omega)) ?_
    have hrows : ((List.range k).map fun i => [AV.own (rid i) (N + 1) 0 (N + 1)]) ++ [[.own H2.length (N + 1) 0 (N + 1)]] = (List.range (k + 1)).map fun i => [.own (upd rid k H2.length i) (N + 1) 0 (N + 1)] := by
      rw [List.range_succ, List.map_append]
      congr 1
      · refine List.map_congr_left (fun i hi => ?_)
        rw [upd_ne (by have := List.mem_range.1 hi; omega)]
      · simp [upd_eq]
    rw [hrows]
    have hrefs : ∀ a ∈ Am.refs v, a < H2.length := hv2.refs
    refine WD_nil ⟨?_, ?_⟩
    · have n1 : ∀ a ∈ Am.refs v, a ≠ H2.length := fun a ha e => by have := hrefs a ha; omega
      simp [pairsDisj, disj, noneOf]
      have := hrefs
      refine ⟨by omega, by omega, fun h => ?_, by omega, by omega⟩
      have := hrefs _ h
      omega
    · have hfin : J (k + 1) (((H2 ++ [fo (N + 1) (m k), Obj.rsv, .live .norm 1 [[.own H2.length (N + 1) 0 (N + 1)]], .rsv]).set (H.length + 3) (.live .nil 1 ((List.range (k + 1)).map fun i => [.own (upd rid k H2.length i) (N + 1) 0 (N + 1)]))).set (H.length + 2) (.lv 2 [.i (N : Int), .own (H.length + 3) (k + 1) 0 (k + 1)])) := by
        refine ⟨get_ne (get_ne (a3 h1) (by omega)) (by omega), get_ne (get_ne (a3 h2) (by omega)) (by omega), sq_self (get_ne (a3 h3) (by omega)), fun a ha => ?_, upd rid k H2.length, get_ne (sq_self (a3 h5)) (by omega), fun i hi => ?_, fun i j hi hj e => ?_⟩
        · rw [List.getElem?_set_ne (by omega), List.getElem?_set_ne (by omega), List.getElem?_append_left (by omega)]; exact h4 a ha
        · by_cases e : i = k
          · subst e
            rw [upd_eq]
            exact ⟨get_ne (get_ne (get_end 0 rfl) (by omega)) (by omega), by omega⟩
          · rw [upd_ne e]
            obtain ⟨x1, x2⟩ := h6 i (by omega)
            exact ⟨get_ne (get_ne (a3 x1) (by omega)) (by omega), x2⟩
        · by_cases ei : i = k
          · by_cases ej : j = k
            · omega
            · rw [ei, upd_eq, upd_ne ej] at e
              have := get_lt (h6 j (by omega)).1; omega
          · by_cases ej : j = k
            · rw [ej, upd_eq, upd_ne ei] at e
              have := get_lt (h6 i (by omega)).1; omega
            · rw [upd_ne ei, upd_ne ej] at e
              exact h7 i j (by omega) (by omega) e
      refine Gh_one (s1 := ⟨⟨28, [(1, .po H.length 0), (2, .po (H.length + 1) 0), (3, .po (H.length + 2) 0), (4, .i (k : Int))]⟩, ((H2 ++ [fo (N + 1) (m k), Obj.rsv, .live .norm 1 [[.own H2.length (N + 1) 0 (N + 1)]], .rsv]).set (H.length + 3) (.live .nil 1 ((List.range (k + 1)).map fun i => [.own (upd rid k H2.length i) (N + 1) 0 (N + 1)]))).set (H.length + 2) (.lv 2 [.i (N : Int), .own (H.length + 3) (k + 1) 0 (k + 1)])⟩) (by kernel_rfl) ?_
      generalize ((H2 ++ [fo (N + 1) (m k), Obj.rsv, .live .norm 1 [[.own H2.length (N + 1) 0 (N + 1)]], .rsv]).set (H.length + 3) (.live .nil 1 ((List.range (k + 1)).map fun i => [.own (upd rid k H2.length i) (N + 1) 0 (N + 1)]))).set (H.length + 2) (.lv 2 [.i (N : Int), .own (H.length + 3) (k + 1) 0 (k + 1)]) = H3 at hfin ⊢
      refine Gh_tr (J (k + 1)) hfin (hJT _ _ hfin) (fun H4 h4 => ?_)
      refine Gh_nil ?_
      refine Gh_tr (J (k + 1)) h4 (hJT _ _ h4) (fun H5 h5 => ?_)
      refine Gh_nil ?_
      refine W_gh ?_
      refine W_reg ?_
      refine O_q 3 ?_
      refine O_nil ?_
      refine Gh_e ⟨⟨28, [(1, .po H.length 0), (2, .po (H.length + 1) 0), (3, .po (H.length + 2) 0), (4, .i (addI .i64 (k : Int) 1))]⟩, H5⟩ ?_
      rw [addI_nat (k := k) (by omega)]
      refine Gh_one (s1 := ⟨⟨28, [(1, .po H.length 0), (2, .po (H.length + 1) 0), (3, .po (H.length + 2) 0), (4, .i ((k + 1 : Nat) : Int))]⟩, H5⟩) (by kernel_rfl) ?_
      refine Gh_tr (J (k + 1)) h5 (hJT _ _ h5) (fun H6 h6 => ?_)
      refine Gh_nil ?_
      refine ⟨⟨k + 1, H6, rfl, by omega, h6⟩, ?_⟩
      show N + 1 - (((k + 1 : Nat) : Int)).toNat < N + 1 - ((k : Int)).toNat
      omega
  · have c3 := of_decide_eq_false c
    obtain rfl : k = N + 1 := by omega
    refine W_exit ?_
    refine X_hit ?_
    refine Gh_one (s1 := ⟨⟨28, [(2, .po (H.length + 1) 0), (3, .po (H.length + 2) 0)]⟩, H2⟩) (by kernel_rfl) ?_
    refine Gh_tr (J (N + 1)) hJ' (hJT _ _ hJ') (fun H3 h3 => ?_)
    refine Gh_nil ?_
    obtain ⟨h1, h2, h3, h4, rid, h5, h6, h7⟩ := h3
    refine W_seq ?_
    refine W_gh ?_
    refine W_reg ?_
    refine O_lda h3 (by kernel_rfl) rfl ?_
    refine O_st (o := 0) (sz := 2) (cs := [.i 0, .ro []]) (id := H.length + 1) [.i (N : Int), .own (H.length + 3) (N + 1) 0 (N + 1)] [.i (N : Int), .own (H.length + 3) (N + 1) 0 (N + 1)] h2 ?_
    refine O_nil ?_
    refine Gh_e ⟨⟨28, [(2, .po (H.length + 1) 0)]⟩, H3.set (H.length + 1) (.lv 2 [.i (N : Int), .own (H.length + 3) (N + 1) 0 (N + 1)])⟩ ?_
    refine W_ret ?_
    refine ⟨[.agg [.i (N : Int), .own (H.length + 3) (N + 1) 0 (N + 1)]], res_box rfl (sq_self h2) rfl rfl, hk (H.length + 3) rid _ ?_ (h4.set (by omega))⟩
    exact ⟨get_ne h5 (by omega), fun i hi => get_ne (h6 i hi).1 (by have := (h6 i hi).2; omega), by omega, fun i hi => by have := (h6 i hi).2; omega, h7, fun i hi => by have := (h6 i hi).2; omega, rfl, rfl⟩
end G11

namespace G11
open Go hiding Obj mark
open Go.Pl Go.Am Go.Am.As
set_option linter.unusedVariables false

theorem mr_get {α : Type} {n i : Nat} {f : Nat → α} (hi : i < n) : ((List.range n).map f)[i]? = some (f i) := by rw [List.getElem?_map, List.getElem?_range hi]; rfl
theorem ne_get {H : List Obj} {a b : Nat} {o o' : Obj} (h : H[a]? = some o) (h' : H[b]? = some o') (hne : o ≠ o') : a ≠ b := by
  intro e; subst e; rw [h] at h'; injection h' with h'; exact hne h'
theorem obj_ne1 {fl : Fl} {es : List (List AV)} {cs : List AV} : Obj.live fl 1 es ≠ .lv 2 cs := by intro h; injection h with _ h _; cases h

theorem matL_row {n : Nat} {l : List (List Int)} (h : Sq n l) : l = matL n (ent l) := by
  refine List.ext_getElem (by simp [matL, h.1]) (fun i h1 h2 => ?_)
  have hr : l[i].length = n := h.2 _ (List.getElem_mem h1)
  refine List.ext_getElem (by simp [matL, rowL, hr]) (fun j h3 h4 => ?_)
  simp [matL, rowL, ent_get h1 h3]

end G11

namespace G11
open Go hiding Obj mark
open Go.Pl Go.Am Go.Am.As
set_option linter.unusedVariables false

end G11

namespace G11
open Go hiding Obj mark
open Go.Pl Go.Am Go.Am.As
set_option linter.unusedVariables false

end G11

namespace G11
open Go hiding Obj mark
open Go.Pl Go.Am Go.Am.As
set_option linter.unusedVariables false

end G11

namespace G11
open Go hiding Obj mark
open Go.Pl Go.Am Go.Am.As
set_option linter.unusedVariables false

end G11

namespace G11
open Go hiding Obj mark
open Go.Pl Go.Am Go.Am.As
set_option linter.unusedVariables false

theorem empty_eq2 {M : Nat} {H : List Obj} {K : AV → List Obj → Prop} (hM : M + 1 ≤ 13)
    (hk : ∀ q H' m, H.length ≤ q → H'[q]? = some (sqo (M + 1) m) → Fr H.length H H' → (∀ i j, i < M + 1 → j < M + 1 → m i j = freeM i j) → K (.po q 0) H') : WC E0 hp false 59 [.i (M : Int)] H K := by
  refine W_call fn59 (.inl rfl) rfl (by decide) ?_
  refine W_seq ?_
  refine W_gh ?_
  refine W_reg ?_
  refine O_q 1 ?_
  refine O_nil ?_
  refine Gh_e ⟨⟨12, [(0, .i (M : Int))]⟩, H⟩ ?_
  refine W_seq ?_
  refine W_gh ?_
  refine W_reg ?_
  refine O_q 3 ?_
  refine O_box (cs := .i ((M + 1 : Nat) : Int) :: sqc (fun _ _ => 0)) (sz := 170) H.length (H ++ [sqo (M + 1) fun _ _ => 0]) (by rw [← addI_nat (k := M) (by omega)]; kernel_rfl) (by simp [sqc]) ?_ rfl rfl
  refine O_alloc (sz := 1) (H.length + 1) (H ++ [sqo (M + 1) fun _ _ => 0, .lv 1 [.nilp]]) rfl ?_ (by simp) (by rw [List.append_assoc]; rfl)
  refine O_st (o := 0) (sz := 1) (cs := [.nilp]) [.po H.length 0] [.po H.length 0] (id := H.length + 1) (get_end 1 rfl) ?_
  refine O_nil ?_
  have eH : (H ++ [sqo (M + 1) fun _ _ => 0, Obj.lv 1 [.nilp]]).set (H.length + 1) (.lv 1 [.po H.length 0]) = H ++ [sqo (M + 1) fun _ _ => 0, .lv 1 [.po H.length 0]] := by simp
  rw [eH]
  refine Gh_e ⟨⟨12, [(3, .po (H.length + 1) 0)]⟩, H ++ [sqo (M + 1) fun _ _ => 0, .lv 1 [.po H.length 0]]⟩ ?_
  have hs : (H ++ [sqo (M + 1) fun _ _ => 0, Obj.lv 1 [.po H.length 0]])[H.length]? = some (sqo (M + 1) fun _ _ => 0) := get_end 0 rfl
  have hp3 : (H ++ [sqo (M + 1) fun _ _ => 0, Obj.lv 1 [.po H.length 0]])[H.length + 1]? = some (.lv 1 [.po H.length 0]) := get_end 1 rfl
  have hf : Fr H.length H (H ++ [sqo (M + 1) fun _ _ => 0, Obj.lv 1 [.po H.length 0]]) := Fr.app
  have hlen : (H ++ [sqo (M + 1) fun _ _ => 0, Obj.lv 1 [.po H.length 0]]).length = H.length + 2 := by simp
  generalize H ++ [sqo (M + 1) fun _ _ => 0, Obj.lv 1 [.po H.length 0]] = H1 at hs hp3 hf hlen ⊢
  refine W_seq ?_
  refine W_gh ?_
  refine W_reg ?_
  refine O_ldb (o := 0) hp3 (by kernel_rfl) rfl ?_
  refine O_q 1 ?_
  refine O_wc (xs := [.po H.length 0, .fn 89 [.po (H.length + 1) 0]]) (by kernel_rfl) (by kernel_rfl) ?_
  refine each_eq (n := M + 1) (fun i j H' => Fr H.length H H' ∧ H'[H.length + 1]? = some (.lv 1 [.po H.length 0]) ∧ ∃ m, H'[H.length]? = some (sqo (M + 1) m) ∧ ∀ a b, a < M + 1 → b < M + 1 → (a < i ∨ a = i ∧ b < j) → m a b = freeM a b) hM (fun i j H' h => by obtain ⟨m, h1, _⟩ := h.2.2; exact ⟨m, h1⟩) (fun i j H' h => .inr ?_) ⟨hf, hp3, _, hs, fun a b _ _ h => by omega⟩ ?_ (fun i H' hi h => by obtain ⟨h1, h2, m, h3, h4⟩ := h; exact ⟨h1, h2, m, h3, fun a b ha hb h => h4 a b ha hb (by omega)⟩) ?_
  · obtain ⟨h1, h2, m, h3, h4⟩ := h
    rw [hlen]
    exact ⟨h1.take (by omega), get_take h2 (by omega), m, get_take h3 (by omega), h4⟩
  · rintro i j H2 K' hi hj ⟨h1, h2, m, h3, h4⟩ hk'
    refine W_call fn89 (.inr (snaps_none 2 rfl rfl)) rfl (by decide) ?_
    refine W_seq ?_
    refine W_gh ?_
    refine W_reg ?_
    refine O_ldb (o := 0) h2 (by kernel_rfl) rfl ?_
    refine O_q 4 ?_
    refine O_sqst (v := -1099511627776) (i := i) (j := j) (by omega) (by omega) h3 ?_
    refine O_nil ?_
    have g2 : (H2.set H.length (sqo (M + 1) (up2 m i j (-1099511627776))))[H.length + 1]? = some (.lv 1 [.po H.length 0]) := get_ne h2 (by omega)
    have g3 : (H2.set H.length (sqo (M + 1) (up2 m i j (-1099511627776))))[H.length]? = some (sqo (M + 1) (up2 m i j (-1099511627776))) := sq_self h3
    have g1 : Fr H.length H (H2.set H.length (sqo (M + 1) (up2 m i j (-1099511627776)))) := h1.set (Nat.le_refl _)
    refine Gh_e ⟨⟨22, [(0, .i (i : Int)), (1, .i (j : Int)), (2, .po (H.length + 1) 0)]⟩, H2.set H.length (sqo (M + 1) (up2 m i j (-1099511627776)))⟩ ?_
    generalize H2.set H.length (sqo (M + 1) (up2 m i j (-1099511627776))) = H3 at g1 g2 g3 ⊢
    refine W_seq ?_
    refine W_gh ?_
    refine W_reg ?_
    refine O_q 3 ?_
    refine O_nil ?_
    refine Gh_e ⟨⟨22, [(0, .i (i : Int)), (1, .i (j : Int)), (2, .po (H.length + 1) 0), (14, .bool ((i : Int) == (j : Int)))]⟩, H3⟩ ?_
    refine W_gh ?_
    refine W_cond (c := ((i : Int) == (j : Int))) (by kernel_rfl) (fun c => ?_) (fun c => ?_)
    · refine W_gh ?_
      refine W_reg ?_
      refine O_ldb (o := 0) g2 (by kernel_rfl) rfl ?_
      refine O_q 4 ?_
      refine O_sqst (v := 0) (i := i) (j := j) (by omega) (by omega) g3 ?_
      refine O_nil ?_
      refine Gh_e ⟨⟨22, [(14, .bool ((i : Int) == (j : Int)))]⟩, H3.set H.length (sqo (M + 1) (up2 (up2 m i j (-1099511627776)) i j 0))⟩ ?_
      refine Gh_e ⟨⟨22, []⟩, H3.set H.length (sqo (M + 1) (up2 (up2 m i j (-1099511627776)) i j 0))⟩ ?_
      refine ⟨[], rfl, hk' _ ⟨g1.set (Nat.le_refl _), get_ne g2 (by omega), _, sq_self g3, fun a b ha hb h => ?_⟩⟩
      have c3 : i = j := by have := of_decide_eq_true c; omega
      by_cases e : a = i ∧ b = j
      · obtain ⟨rfl, rfl⟩ := e; rw [up2_eq, freeM, if_pos c3]
      · rw [up2_ne e, up2_ne e]; exact h4 a b ha hb (by omega)
    · refine W_skip ?_
      refine Gh_e ⟨⟨22, []⟩, H3⟩ ?_
      refine ⟨[], rfl, hk' _ ⟨g1, g2, _, g3, fun a b ha hb h => ?_⟩⟩
      have c3 : ¬ i = j := fun e => by subst e; simp at c
      by_cases e : a = i ∧ b = j
      · obtain ⟨rfl, rfl⟩ := e; rw [up2_eq, freeM, if_neg c3]
      · rw [up2_ne e]; exact h4 a b ha hb (by omega)
  rintro H2 ⟨h1, h2, m, h3, h4⟩
  refine O_nil ?_
  refine Gh_e ⟨⟨12, [(3, .po (H.length + 1) 0)]⟩, H2⟩ ?_
  refine W_seq ?_
  refine W_gh ?_
  refine W_reg ?_
  refine O_ldb (o := 0) h2 (by kernel_rfl) rfl ?_
  refine O_q 1 ?_
  refine O_nil ?_
  refine Gh_e ⟨⟨12, [(2, .po H.length 0)]⟩, H2⟩ ?_
  refine W_ret ?_
  exact ⟨[.po H.length 0], by kernel_rfl, hk _ _ m (Nat.le_refl _) h3 h1 fun i j hi hj => h4 i j hi hj (by omega)⟩

end G11

namespace G11
open Go hiding Obj mark
open Go.Pl Go.Am Go.Am.As
set_option linter.unusedVariables false

end G11

namespace G11
open Go hiding Obj mark
open Go.Pl Go.Am Go.Am.As
set_option linter.unusedVariables false

theorem Gh_any {b n : Nat} {gs : List GA} {s : ST} {N : ST → Prop} (P : List Obj → Prop) (h0 : P s.H) (h : T.belsL (b + n) s.tmps.l = false ∨ P (s.H.take (b + n))) (k : ∀ H', P H' → Gh b gs ⟨s.tmps, H'⟩ N) : Gh b (.trunc n :: gs) s N := by
  rcases h with h | h
  · exact Gh_keep h (k _ h0)
  · exact Gh_tr P h0 (.inr h) k

theorem free_eq2 {M : Nat} {H : List Obj} {K : AV → List Obj → Prop} (hM : M + 1 ≤ 100)
    (hk : ∀ b rid H', NC H.length H' b (M + 1) freeM rid .nil .nil → Fr H.length H H' → K (.agg [.i (M : Int), .own b (M + 1) 0 (M + 1)]) H') : WC E0 hp false 61 [.i (M : Int)] H K := by
  refine W_call fn61 (.inl rfl) rfl (by decide) ?_
  refine W_seq ?_
  refine W_gh ?_
  refine W_reg ?_
  refine O_alloc (sz := 2) H.length (H ++ [.lv 2 [.i 0, .nils]]) rfl ?_
  refine O_nil ?_
  refine Gh_wkp (id := H.length) (cs' := [.i 0, .ro []]) get_last rfl rfl rfl ?_
  refine Gh_nil ?_
  refine W_at (s1 := ⟨⟨35, [(0, .i (M : Int)), (2, .po H.length 0)]⟩, H ++ [.lv 2 [.i 0, .ro []]]⟩) (by
    have e1 : (H ++ [Obj.lv 2 [.i 0, .nils]]).set H.length (.lv 2 [.i 0, .ro []]) = H ++ [.lv 2 [.i 0, .ro []]] := by simp
    show (⟨_, (H ++ [Obj.lv 2 [.i 0, .nils]]).set H.length (.lv 2 [.i 0, .ro []])⟩ : ST) = _
    rw [e1]; rfl) ?_
  refine W_seq ?_
  refine W_gh ?_
  refine W_reg ?_
  refine O_q 2 ?_
  refine O_alloc (sz := 2) (H.length + 1) (H ++ [.lv 2 [.i 0, .ro []], .lv 2 [.i 0, .nils]]) rfl ?_
  refine O_st (o := 0) (sz := 2) (cs := [.i 0, .nils]) (id := H.length + 1) [.i (M : Int), .nils] [.i (M : Int), .nils] (get_end 1 rfl) ?_
  refine O_nil ?_
  have e2 : (H ++ [Obj.lv 2 [.i 0, .ro []], .lv 2 [.i 0, .nils]]).set (H.length + 1) (.lv 2 [.i (M : Int), .nils]) = H ++ [.lv 2 [.i 0, .ro []], .lv 2 [.i (M : Int), .nils]] := by simp
  rw [e2]
  refine Gh_one (s1 := ⟨⟨35, [(0, .i (M : Int)), (2, .po H.length 0), (3, .po (H.length + 1) 0)]⟩, H ++ [.lv 2 [.i 0, .ro []], .lv 2 [.i (M : Int), .nils]]⟩) (by kernel_rfl) ?_
  refine Gh_promf (id := H.length + 1) (c0 := .i (M : Int)) (get_end 1 rfl) rfl ?_
  have e3 : ((H ++ [Obj.lv 2 [.i 0, .ro []], .lv 2 [.i (M : Int), .nils]]) ++ [Obj.live .nil 1 []]).set (H.length + 1) (.lv 2 [.i (M : Int), .own (H ++ [Obj.lv 2 [.i 0, .ro []], .lv 2 [.i (M : Int), .nils]]).length 0 0 0]) = H ++ [.lv 2 [.i 0, .ro []], .lv 2 [.i (M : Int), .own (H.length + 2) 0 0 0], .live .nil 1 []] := by simp
  show Gh H.length _ ⟨_, ((H ++ [Obj.lv 2 [.i 0, .ro []], .lv 2 [.i (M : Int), .nils]]) ++ [Obj.live .nil 1 []]).set (H.length + 1) (.lv 2 [.i (M : Int), .own (H ++ [Obj.lv 2 [.i 0, .ro []], .lv 2 [.i (M : Int), .nils]]).length 0 0 0])⟩ _
  rw [e3]
  refine Gh_wkp (id := H.length + 1) (cs' := [.i (M : Int), .own (H.length + 2) 0 0 0]) (get_end 1 rfl) rfl rfl rfl ?_
  refine Gh_nil ?_
  have e4 : (H ++ [Obj.lv 2 [.i 0, .ro []], .lv 2 [.i (M : Int), .own (H.length + 2) 0 0 0], .live .nil 1 []]).set (H.length + 1) (.lv 2 [.i (M : Int), .own (H.length + 2) 0 0 0]) = H ++ [.lv 2 [.i 0, .ro []], .lv 2 [.i (M : Int), .own (H.length + 2) 0 0 0], .live .nil 1 []] := by simp
  show W E0 hp _ _ _ _ _ ⟨_, (H ++ [Obj.lv 2 [.i 0, .ro []], .lv 2 [.i (M : Int), .own (H.length + 2) 0 0 0], .live .nil 1 []]).set (H.length + 1) (.lv 2 [.i (M : Int), .own (H.length + 2) 0 0 0])⟩
  rw [e4]
  have s0 : (H ++ [Obj.lv 2 [.i 0, .ro []], .lv 2 [.i (M : Int), .own (H.length + 2) 0 0 0], .live .nil 1 []])[H.length]? = some (.lv 2 [.i 0, .ro []]) := get_end 0 rfl
  have s1 : (H ++ [Obj.lv 2 [.i 0, .ro []], .lv 2 [.i (M : Int), .own (H.length + 2) 0 0 0], .live .nil 1 []])[H.length + 1]? = some (.lv 2 [.i (M : Int), .own (H.length + 2) 0 0 0]) := get_end 1 rfl
  have s2 : (H ++ [Obj.lv 2 [.i 0, .ro []], .lv 2 [.i (M : Int), .own (H.length + 2) 0 0 0], .live .nil 1 []])[H.length + 2]? = some (.live .nil 1 []) := get_end 2 rfl
  have s4 : (H ++ [Obj.lv 2 [.i 0, .ro []], .lv 2 [.i (M : Int), .own (H.length + 2) 0 0 0], .live .nil 1 []]).length = H.length + 3 := by simp
  have s5 : Fr H.length H (H ++ [Obj.lv 2 [.i 0, .ro []], .lv 2 [.i (M : Int), .own (H.length + 2) 0 0 0], .live .nil 1 []]) := Fr.app
  generalize H ++ [Obj.lv 2 [.i 0, .ro []], .lv 2 [.i (M : Int), .own (H.length + 2) 0 0 0], .live .nil 1 []] = H1 at s0 s1 s2 s4 s5 ⊢
  refine W_seq ?_
  refine W_seq ?_
  refine W_reg ?_
  refine O_q 1 ?_
  refine O_nil ?_
  -- k rows are there
  let J : Nat → List Obj → Prop := fun k H' => H'[H.length]? = some (.lv 2 [.i 0, .ro []]) ∧ H'[H.length + 1]? = some (.lv 2 [.i (M : Int), .own (H.length + 2) k 0 k]) ∧ Fr H.length H H' ∧ (k = 0 → H'.length = H.length + 3) ∧
    ∃ rid : Nat → Nat, H'[H.length + 2]? = some (.live .nil 1 ((List.range k).map fun i => [.own (rid i) (M + 1) 0 (M + 1)])) ∧ (∀ i, i < k → H'[rid i]? = some (.live .nil 1 ((rowL (M + 1) (freeM i)).map cI_i64)) ∧ H.length + 3 ≤ rid i) ∧ (∀ i, i < k → 1 ≤ i → H.length + 4 ≤ rid i) ∧ (0 < k → rid 0 = H.length + 3) ∧ (∀ i j, i < k → j < k → rid i = rid j → i = j)
  have hJ3 : ∀ k H', 0 < k → J k H' → NoT (H.length + 3) H' := by
    rintro k H' hk0 ⟨h1, h2, h3, h4, rid, h5, h6, h7, h8, h9⟩
    refine noT_ref h5 (by omega) ?_
    exact belss_get (i := 0) (by rw [List.getElem?_map, List.getElem?_range (by omega)]; rfl) (h6 0 (by omega)).2
  have hJ4 : ∀ k H', 0 < k → J k H' → NoT (H.length + 4) H' ∨ J k (H'.take (H.length + 4)) := by
    rintro k H' hk0 ⟨h1, h2, h3, h4, rid, h5, h6, h7, h8, h9⟩
    by_cases hk1 : k = 1
    · subst hk1
      refine .inr ⟨get_take h1 (by omega), get_take h2 (by omega), h3.take (by omega), fun h => by omega, rid, get_take h5 (by omega), fun i hi => ⟨get_take (h6 i hi).1 ?_, (h6 i hi).2⟩, h7, h8, h9⟩
      obtain rfl : i = 0 := by omega
      rw [h8 (by omega)]; omega
    · left
      refine noT_ref h5 (by omega) ?_
      exact belss_get (i := 1) (by rw [List.getElem?_map, List.getElem?_range (by omega)]; rfl) (h7 1 (by omega) (by omega))
  refine W_gh (W_block ?_)
  refine W_lp (fun s' => ∃ (k : Nat) (H' : List Obj), s' = ⟨⟨35, [(0, .i (M : Int)), (2, .po H.length 0), (3, .po (H.length + 1) 0), (4, .i (k : Int))]⟩, H'⟩ ∧ k ≤ M + 1 ∧ J k H') (fun s' => match s'.tmps.get 4 with | .int _ k => M + 1 - k.toNat | _ => 0)
    ⟨0, H1, rfl, by omega, s0, s1, s5, fun _ => s4, fun _ => 0, s2, fun i hi => by omega, fun i hi => by omega, fun h => by omega, fun i j hi => by omega⟩ ?_
  rintro s' ⟨k, H2, rfl, hkn, hJ⟩
  refine W_gh ?_
  refine W_seq ?_
  refine W_seq ?_
  refine W_gh ?_
  refine W_reg ?_
  refine O_q 3 ?_
  refine O_nil ?_
  refine Gh_e ⟨⟨35, [(0, .i (M : Int)), (2, .po H.length 0), (3, .po (H.length + 1) 0), (4, .i (k : Int)), (11, .bool (decide ((k : Int) ≤ (M : Int))))]⟩, H2⟩ ?_
  refine W_gh ?_
  refine W_cond (c := decide ((k : Int) ≤ (M : Int))) (by kernel_rfl) (fun c => ?_) (fun c => ?_)
  · have c3 : k < M + 1 := by have := of_decide_eq_true c; omega
    obtain ⟨h1, h2, h3, h4, rid, h5, h6, h7, h8, h9⟩ := hJ
    have hR : H.length + 3 ≤ H2.length ∧ (k = 0 → H2.length = H.length + 3) ∧ (1 ≤ k → H.length + 4 ≤ H2.length) := by
      refine ⟨by have := get_lt h5; omega, h4, fun h => ?_⟩
      have := get_lt (h6 0 (by omega)).1
      rw [h8 (by omega)] at this
      omega
    refine W_skip ?_
    refine Gh_e ⟨⟨35, [(0, .i (M : Int)), (2, .po H.length 0), (3, .po (H.length + 1) 0), (4, .i (k : Int))]⟩, H2⟩ ?_
    refine W_seq ?_
    refine W_gh ?_
    refine W_block ?_
    refine W_seq ?_
    refine W_gh ?_
    refine W_reg ?_
    refine O_q 1 ?_
    refine O_nil ?_
    refine Gh_e ⟨⟨35, [(0, .i (M : Int)), (2, .po H.length 0), (3, .po (H.length + 1) 0), (4, .i (k : Int)), (5, .own H2.length 0 0 0)]⟩, H2 ++ [.live .nil 1 []]⟩ ?_
    -- the row while it grows
    let P : Nat → List Obj → Prop := fun j H' => Fr H2.length H2 H' ∧ H'[H2.length]? = some (.live .nil 1 ((rowL j (freeM k)).map cI_i64))
    have hPt : ∀ j H' (r : List (Nat × AV)), P j H' → T.belsL (H.length + 4) ((5, .own H2.length j 0 j) :: r) = false ∨ P j (H'.take (H.length + 4)) := by
      rintro j H' r ⟨p1, p2⟩
      by_cases hk0 : k = 0
      · right
        have := hR.2.1 hk0
        exact ⟨p1.take (by omega), get_take p2 (by omega)⟩
      · left
        exact tb_bad (own_bad (hR.2.2 (by omega)))
    have hP0 : P 0 (H2 ++ [.live .nil 1 []]) := ⟨Fr.app, get_last⟩
    generalize H2 ++ [Obj.live .nil 1 []] = H3 at hP0 ⊢
    refine W_seq ?_
    refine W_seq ?_
    refine W_reg ?_
    refine O_q 1 ?_
    refine O_nil ?_
    refine W_gh (W_block ?_)
    refine W_lp (fun s' => ∃ (j : Nat) (H' : List Obj), s' = ⟨⟨35, [(0, .i (M : Int)), (2, .po H.length 0), (3, .po (H.length + 1) 0), (4, .i (k : Int)), (5, .own H2.length j 0 j), (6, .i (j : Int))]⟩, H'⟩ ∧ j ≤ M + 1 ∧ P j H') (fun s' => match s'.tmps.get 6 with | .int _ k => M + 1 - k.toNat | _ => 0) ⟨0, H3, rfl, by omega, hP0⟩ ?_
    rintro s' ⟨j, H4, rfl, hj, hP⟩
    refine W_gh ?_
    refine W_seq ?_
    refine W_seq ?_
    refine W_gh ?_
    refine W_reg ?_
    refine O_q 3 ?_
    refine O_nil ?_
    refine Gh_e ⟨⟨35, [(0, .i (M : Int)), (2, .po H.length 0), (3, .po (H.length + 1) 0), (4, .i (k : Int)), (5, .own H2.length j 0 j), (6, .i (j : Int)), (16, .bool (decide ((j : Int) ≤ (M : Int))))]⟩, H4⟩ ?_
    refine W_gh ?_
    refine W_cond (c := decide ((j : Int) ≤ (M : Int))) (by kernel_rfl) (fun c => ?_) (fun c => ?_)
    · have c4 : j < M + 1 := by have := of_decide_eq_true c; omega
      -- a number is put behind the row
      have happ : ∀ v : Int, freeM k j = v → P (j + 1) ((H4 ++ [Obj.live .norm 1 [[.i v]]]).set H2.length (.live .nil 1 (((rowL j (freeM k)).map cI_i64) ++ [[.i v]]))) := by
        rintro v hv
        have l1 : (H4 ++ [Obj.live .norm 1 [[.i v]]])[H2.length]? = some (.live .nil 1 ((rowL j (freeM k)).map cI_i64)) := get_app hP.2
        have ea : ((rowL j (freeM k)).map cI_i64) ++ [[.i v]] = (rowL (j + 1) (freeM k)).map cI_i64 := by
          unfold rowL; rw [List.range_succ, List.map_append, List.map_append, ← hv]; rfl
        rw [ea]
        exact ⟨(hP.1.trans Fr.app (by have := get_lt hP.2; omega)).set (Nat.le_refl _), sq_self l1⟩
      have hafter : ∀ H5 : List Obj, P (j + 1) H5 → ∀ c21 : Bool, Gh H.length [.kill [21], .trunc 4] ⟨⟨35, [(0, .i (M : Int)), (2, .po H.length 0), (3, .po (H.length + 1) 0), (4, .i (k : Int)), (5, .own H2.length (j + 1) 0 (j + 1)), (6, .i (j : Int)), (21, .bool c21)]⟩, H5⟩ (fun s' => Gh H.length [.kill [21], .trunc 4] s' (fun s' => ∃ H6, s' = ⟨⟨35, [(0, .i (M : Int)), (2, .po H.length 0), (3, .po (H.length + 1) 0), (4, .i (k : Int)), (5, .own H2.length (j + 1) 0 (j + 1)), (6, .i (j : Int))]⟩, H6⟩ ∧ P (j + 1) H6)) := by
        intro H5 p5 c21
        refine Gh_one (s1 := ⟨⟨35, [(0, .i (M : Int)), (2, .po H.length 0), (3, .po (H.length + 1) 0), (4, .i (k : Int)), (5, .own H2.length (j + 1) 0 (j + 1)), (6, .i (j : Int))]⟩, H5⟩) (by kernel_rfl) ?_
        refine Gh_any (P (j + 1)) p5 ((hPt _ _ _ p5).imp (fun h => tb_skip (tb_skip (tb_skip (tb_skip h)))) id) (fun H6 p6 => ?_)
        refine Gh_nil ?_
        refine Gh_one (s1 := ⟨⟨35, [(0, .i (M : Int)), (2, .po H.length 0), (3, .po (H.length + 1) 0), (4, .i (k : Int)), (5, .own H2.length (j + 1) 0 (j + 1)), (6, .i (j : Int))]⟩, H6⟩) (by kernel_rfl) ?_
        refine Gh_any (P (j + 1)) p6 ((hPt _ _ _ p6).imp (fun h => tb_skip (tb_skip (tb_skip (tb_skip h)))) id) (fun H7 p7 => ?_)
        exact Gh_nil ⟨H7, rfl, p7⟩
      refine W_skip ?_
      refine Gh_e ⟨⟨35, [(0, .i (M : Int)), (2, .po H.length 0), (3, .po (H.length + 1) 0), (4, .i (k : Int)), (5, .own H2.length j 0 j), (6, .i (j : Int))]⟩, H4⟩ ?_
      refine W_seq ?_
      refine W.mono (N := fun s' => ∃ H6, s' = ⟨⟨35, [(0, .i (M : Int)), (2, .po H.length 0), (3, .po (H.length + 1) 0), (4, .i (k : Int)), (5, .own H2.length (j + 1) 0 (j + 1)), (6, .i (j : Int))]⟩, H6⟩ ∧ P (j + 1) H6) (W_gh (W_block ?_)) (fun s' hs' => ?_) (fun _ _ h => h) (fun _ h => h)
      · refine W_seq ?_
        refine W_gh ?_
        refine W_reg ?_
        refine O_q 3 ?_
        refine O_nil ?_
        refine Gh_e ⟨⟨35, [(0, .i (M : Int)), (2, .po H.length 0), (3, .po (H.length + 1) 0), (4, .i (k : Int)), (5, .own H2.length j 0 j), (6, .i (j : Int)), (21, .bool ((k : Int) == (j : Int)))]⟩, H4⟩ ?_
        refine W_gh ?_
        refine W_cond (c := ((k : Int) == (j : Int))) (by kernel_rfl) (fun c5 => ?_) (fun c5 => ?_)
        · have c6 : k = j := by have : (k : Int) = (j : Int) := by simpa using c5
                                omega
          refine W_gh ?_
          refine W_reg ?_
          refine O_q 1 ?_
          refine O_bsl1 (v := .i 0) (by kernel_rfl) ?_
          refine O_app1 (m := j) (id := H2.length) (fl := .nil) (es := (rowL j (freeM k)).map cI_i64) (v := .i 0) (tid := H4.length) (get_app hP.2) (by simp [rowL]) get_last rfl (by omega) (by omega) rfl ?_
          have hp5 := happ 0 (by unfold freeM; rw [if_pos c6])
          generalize (H4 ++ [Obj.live .norm 1 [[.i 0]]]).set H2.length (.live .nil 1 (((rowL j (freeM k)).map cI_i64) ++ [[.i 0]])) = H5 at hp5 ⊢
          refine O_q 1 ?_
          refine O_nil ?_
          refine Gh_one (s1 := ⟨⟨35, [(0, .i (M : Int)), (2, .po H.length 0), (3, .po (H.length + 1) 0), (4, .i (k : Int)), (5, .own H2.length (j + 1) 0 (j + 1)), (6, .i (j : Int)), (21, .bool ((k : Int) == (j : Int)))]⟩, H5⟩) (by kernel_rfl) ?_
          refine Gh_any (P (j + 1)) hp5 ((hPt _ _ _ hp5).imp (fun h => tb_skip (tb_skip (tb_skip (tb_skip h)))) id) (fun H6 p6 => ?_)
          refine Gh_nil ?_
          exact hafter H6 p6 _
        · have c6 : k ≠ j := by intro e; subst e; simp at c5
          refine W_gh ?_
          refine W_reg ?_
          refine O_q 1 ?_
          refine O_bsl1 (v := .i (-1099511627776)) (by kernel_rfl) ?_
          refine O_app1 (m := j) (id := H2.length) (fl := .nil) (es := (rowL j (freeM k)).map cI_i64) (v := .i (-1099511627776)) (tid := H4.length) (get_app hP.2) (by simp [rowL]) get_last rfl (by omega) (by omega) rfl ?_
          have hp5 := happ (-1099511627776) (by unfold freeM; rw [if_neg c6])
          generalize (H4 ++ [Obj.live .norm 1 [[.i (-1099511627776)]]]).set H2.length (.live .nil 1 (((rowL j (freeM k)).map cI_i64) ++ [[.i (-1099511627776)]])) = H5 at hp5 ⊢
          refine O_q 1 ?_
          refine O_nil ?_
          refine Gh_one (s1 := ⟨⟨35, [(0, .i (M : Int)), (2, .po H.length 0), (3, .po (H.length + 1) 0), (4, .i (k : Int)), (5, .own H2.length (j + 1) 0 (j + 1)), (6, .i (j : Int)), (21, .bool ((k : Int) == (j : Int)))]⟩, H5⟩) (by kernel_rfl) ?_
          refine Gh_any (P (j + 1)) hp5 ((hPt _ _ _ hp5).imp (fun h => tb_skip (tb_skip (tb_skip (tb_skip h)))) id) (fun H6 p6 => ?_)
          refine Gh_nil ?_
          exact hafter H6 p6 _
      · obtain ⟨H6, rfl, p6⟩ := hs'
        refine W_gh ?_
        refine W_reg ?_
        refine O_q 3 ?_
        refine O_nil ?_
        refine Gh_e ⟨⟨35, [(0, .i (M : Int)), (2, .po H.length 0), (3, .po (H.length + 1) 0), (4, .i (k : Int)), (5, .own H2.length (j + 1) 0 (j + 1)), (6, .i (addI .i64 (j : Int) 1))]⟩, H6⟩ ?_
        rw [addI_nat (k := j) (by omega)]
        refine Gh_one (s1 := ⟨⟨35, [(0, .i (M : Int)), (2, .po H.length 0), (3, .po (H.length + 1) 0), (4, .i (k : Int)), (5, .own H2.length (j + 1) 0 (j + 1)), (6, .i ((j + 1 : Nat) : Int))]⟩, H6⟩) (by kernel_rfl) ?_
        refine Gh_any (P (j + 1)) p6 ((hPt _ _ _ p6).imp (fun h => tb_skip (tb_skip (tb_skip (tb_skip h)))) id) (fun H7 p7 => ?_)
        refine Gh_nil ?_
        refine ⟨⟨j + 1, H7, rfl, by omega, p7⟩, ?_⟩
        show M + 1 - (((j + 1 : Nat) : Int)).toNat < M + 1 - ((j : Int)).toNat
        omega
    · have c4 := of_decide_eq_false c
      obtain rfl : j = M + 1 := by omega
      refine W_exit ?_
      refine X_hit ?_
      refine Gh_one (s1 := ⟨⟨35, [(0, .i (M : Int)), (2, .po H.length 0), (3, .po (H.length + 1) 0), (4, .i (k : Int)), (5, .own H2.length (M + 1) 0 (M + 1))]⟩, H4⟩) (by kernel_rfl) ?_
      refine Gh_any (P (M + 1)) hP ((hPt _ _ _ hP).imp (fun h => tb_skip (tb_skip (tb_skip (tb_skip h)))) id) (fun H5 p5 => ?_)
      refine Gh_nil ?_
      obtain ⟨q1, q2⟩ := p5
      have hl5 := get_lt q2
      have x1 : H5[H.length + 1]? = some (.lv 2 [.i (M : Int), .own (H.length + 2) k 0 k]) := (q1 _ (get_lt h2)).trans h2
      have x2 : H5[H.length + 2]? = some (.live .nil 1 ((List.range k).map fun i => [.own (rid i) (M + 1) 0 (M + 1)])) := (q1 _ (get_lt h5)).trans h5
      have x0 : H5[H.length]? = some (.lv 2 [.i 0, .ro []]) := (q1 _ (get_lt h1)).trans h1
      refine W_gh ?_
      refine W_reg ?_
      refine O_q 1 ?_
      refine O_ldb (o := 1) x1 (by kernel_rfl) rfl ?_
      refine O_q 1 ?_
      refine O_bsl1 (v := .own H2.length (M + 1) 0 (M + 1)) (by kernel_rfl) ?_
      refine O_app1 (m := k) (id := H.length + 2) (fl := .nil) (es := (List.range k).map fun i => [.own (rid i) (M + 1) 0 (M + 1)]) (v := .own H2.length (M + 1) 0 (M + 1)) (tid := H5.length) (get_app x2) (by simp) get_last rfl (by omega) (by omega) rfl ?_
      have hrows : ((List.range k).map fun i => [AV.own (rid i) (M + 1) 0 (M + 1)]) ++ [[.own H2.length (M + 1) 0 (M + 1)]] = (List.range (k + 1)).map fun i => [.own (upd rid k H2.length i) (M + 1) 0 (M + 1)] := by
        rw [List.range_succ, List.map_append]
        congr 1
        · refine List.map_congr_left (fun i hi => ?_)
          rw [upd_ne (by have := List.mem_range.1 hi; omega)]
        · simp [upd_eq]
      rw [hrows]
      refine O_q 1 ?_
      refine O_st (o := 1) (sz := 2) (cs := [.i (M : Int), .own (H.length + 2) k 0 k]) (id := H.length + 1) [.own (H.length + 2) (k + 1) 0 (k + 1)] [.i (M : Int), .own (H.length + 2) (k + 1) 0 (k + 1)] (get_ne (get_app x1) (by omega)) ?_
      refine O_nil ?_
      have hfin : J (k + 1) (((H5 ++ [Obj.live .norm 1 [[.own H2.length (M + 1) 0 (M + 1)]]]).set (H.length + 2) (.live .nil 1 ((List.range (k + 1)).map fun i => [.own (upd rid k H2.length i) (M + 1) 0 (M + 1)]))).set (H.length + 1) (.lv 2 [.i (M : Int), .own (H.length + 2) (k + 1) 0 (k + 1)])) := by
        refine ⟨get_ne (get_ne (get_app x0) (by omega)) (by omega), sq_self (get_ne (get_app x1) (by omega)), fun a ha => ?_, fun h => by omega, upd rid k H2.length, get_ne (sq_self (get_app x2)) (by omega), fun i hi => ?_, fun i hi hi1 => ?_, fun _ => ?_, fun i j hi hj e => ?_⟩
        · rw [List.getElem?_set_ne (by omega), List.getElem?_set_ne (by omega), List.getElem?_append_left (by omega), q1 a (by omega)]; exact h3 a ha
        · by_cases e : i = k
          · subst e
            rw [upd_eq]
            exact ⟨get_ne (get_ne (get_app q2) (by omega)) (by omega), hR.1⟩
          · rw [upd_ne e]
            obtain ⟨y1, y2⟩ := h6 i (by omega)
            exact ⟨get_ne (get_ne (get_app ((q1 _ (get_lt y1)).trans y1)) (by omega)) (by omega), y2⟩
        · by_cases e : i = k
          · subst e
            rw [upd_eq]
            exact hR.2.2 hi1
          · rw [upd_ne e]; exact h7 i (by omega) hi1
        · by_cases e : 0 = k
          · rw [← e, upd_eq]; exact hR.2.1 e.symm
          · rw [upd_ne e]; exact h8 (by omega)
        · by_cases ei : i = k
          · by_cases ej : j = k
            · omega
            · rw [ei, upd_eq, upd_ne ej] at e
              have := get_lt (h6 j (by omega)).1; omega
          · by_cases ej : j = k
            · rw [ej, upd_eq, upd_ne ei] at e
              have := get_lt (h6 i (by omega)).1; omega
            · rw [upd_ne ei, upd_ne ej] at e
              exact h9 i j (by omega) (by omega) e
      refine Gh_one (s1 := ⟨⟨35, [(0, .i (M : Int)), (2, .po H.length 0), (3, .po (H.length + 1) 0), (4, .i (k : Int))]⟩, ((H5 ++ [Obj.live .norm 1 [[.own H2.length (M + 1) 0 (M + 1)]]]).set (H.length + 2) (.live .nil 1 ((List.range (k + 1)).map fun i => [.own (upd rid k H2.length i) (M + 1) 0 (M + 1)]))).set (H.length + 1) (.lv 2 [.i (M : Int), .own (H.length + 2) (k + 1) 0 (k + 1)])⟩) (by kernel_rfl) ?_
      generalize ((H5 ++ [Obj.live .norm 1 [[.own H2.length (M + 1) 0 (M + 1)]]]).set (H.length + 2) (.live .nil 1 ((List.range (k + 1)).map fun i => [.own (upd rid k H2.length i) (M + 1) 0 (M + 1)]))).set (H.length + 1) (.lv 2 [.i (M : Int), .own (H.length + 2) (k + 1) 0 (k + 1)]) = H6 at hfin ⊢
      refine Gh_tr (J (k + 1)) hfin (hJ4 _ _ (by omega) hfin) (fun H7 j7 => ?_)
      refine Gh_nil ?_
      refine Gh_one (s1 := ⟨⟨35, [(0, .i (M : Int)), (2, .po H.length 0), (3, .po (H.length + 1) 0), (4, .i (k : Int))]⟩, H7⟩) (by kernel_rfl) ?_
      refine Gh_noT (hJ3 _ _ (by omega) j7) ?_
      refine Gh_nil ?_
      refine W_gh ?_
      refine W_reg ?_
      refine O_q 3 ?_
      refine O_nil ?_
      refine Gh_e ⟨⟨35, [(0, .i (M : Int)), (2, .po H.length 0), (3, .po (H.length + 1) 0), (4, .i (addI .i64 (k : Int) 1))]⟩, H7⟩ ?_
      rw [addI_nat (k := k) (by omega)]
      refine Gh_one (s1 := ⟨⟨35, [(0, .i (M : Int)), (2, .po H.length 0), (3, .po (H.length + 1) 0), (4, .i ((k + 1 : Nat) : Int))]⟩, H7⟩) (by kernel_rfl) ?_
      refine Gh_noT (hJ3 _ _ (by omega) j7) ?_
      refine Gh_nil ?_
      refine ⟨⟨k + 1, H7, rfl, by omega, j7⟩, ?_⟩
      show M + 1 - (((k + 1 : Nat) : Int)).toNat < M + 1 - ((k : Int)).toNat
      omega
  · have c3 := of_decide_eq_false c
    obtain rfl : k = M + 1 := by omega
    refine W_exit ?_
    refine X_hit ?_
    refine Gh_one (s1 := ⟨⟨35, [(2, .po H.length 0), (3, .po (H.length + 1) 0)]⟩, H2⟩) (by kernel_rfl) ?_
    refine Gh_noT (hJ3 _ _ (by omega) hJ) ?_
    refine Gh_nil ?_
    obtain ⟨h1, h2, h3, h4, rid, h5, h6, h7, h8, h9⟩ := hJ
    refine W_seq ?_
    refine W_gh ?_
    refine W_reg ?_
    refine O_lda h2 (by kernel_rfl) rfl ?_
    refine O_st (o := 0) (sz := 2) (cs := [.i 0, .ro []]) (id := H.length) [.i (M : Int), .own (H.length + 2) (M + 1) 0 (M + 1)] [.i (M : Int), .own (H.length + 2) (M + 1) 0 (M + 1)] h1 ?_
    refine O_nil ?_
    refine Gh_e ⟨⟨35, [(2, .po H.length 0)]⟩, H2.set H.length (.lv 2 [.i (M : Int), .own (H.length + 2) (M + 1) 0 (M + 1)])⟩ ?_
    refine W_ret ?_
    refine ⟨[.agg [.i (M : Int), .own (H.length + 2) (M + 1) 0 (M + 1)]], res_box rfl (sq_self h1) rfl rfl, hk (H.length + 2) rid _ ?_ (h3.set (Nat.le_refl _))⟩
    exact ⟨get_ne h5 (by omega), fun i hi => get_ne (h6 i hi).1 (by have := (h6 i hi).2; omega), by omega, fun i hi => by have := (h6 i hi).2; omega, h9, fun i hi => by have := (h6 i hi).2; omega, rfl, rfl⟩
end G11

namespace G11
open Go hiding Obj mark
open Go.Pl Go.Am Go.Am.As
set_option linter.unusedVariables false

end G11

namespace G11
open Go hiding Obj mark
open Go.Pl Go.Am Go.Am.As
set_option linter.unusedVariables false

theorem p33 (a0 : Int) (r : SBounds × Int) (h : m33 a0 = some r) : Pt E0 hp 33 [.i a0] (.tup [.agg [.i r.1.N, .ro (r.1.Most.map (cL cI_i64))], .i r.2]) := by
  unfold m33 at h
  refine Pt_W fn33 rfl (by decide) ?_
  refine W_seq ?_
  refine W_gh ?_
  refine W_reg ?_
  refine O_p 2 ?_
  refine O_nil ?_
  refine Gh_e ⟨⟨14, [(0, .i a0), (2, .po 0 0)]⟩, [.lv 2 [.i 0, .ro []]]⟩ ?_
  refine W_seq ?_
  refine W_seq ?_
  refine W_cut ⟨⟨14, [(0, .i a0), (2, .po 0 0), (9, .bool (decide (a0 < 0) || decide (a0 > 12)))]⟩, [.lv 2 [.i 0, .ro []]]⟩ ?_ ?_
  · generalize e_g1 : (decide (a0 < 0) || decide (a0 > 12)) = g1
    refine W_gh ?_
    refine W_reg ?_
    refine O_p 3 ?_
    refine O_fork (n := 6) (decide (a0 < 0)) (by kernel_rfl) (fun c2 => ?_) (fun c2 => ?_)
    · refine O_p 3 ?_
      refine O_nil ?_
      refine Gh_e ⟨⟨14, [(0, .i a0), (2, .po 0 0), (9, .bool true)]⟩, [.lv 2 [.i 0, .ro []]]⟩ ?_
      have q := e_g1; simp only [c2, Bool.true_or] at q; subst q
      show _ = _
      kernel_rfl
    · refine O_p 3 ?_
      refine O_nil ?_
      refine Gh_e ⟨⟨14, [(0, .i a0), (2, .po 0 0), (9, .bool (decide (a0 > 12)))]⟩, [.lv 2 [.i 0, .ro []]]⟩ ?_
      have q := e_g1; simp only [c2, Bool.false_or] at q; subst q
      show _ = _
      kernel_rfl
  refine W_gh ?_
  refine W_cond (c := (decide (a0 < 0) || decide (a0 > 12))) (by kernel_rfl) (fun c3 => ?_) (fun c3 => ?_)
  · replace h := fork_t c3 h
    refine W_seq ?_
    refine W_gh ?_
    refine W_reg ?_
    refine O_p 3 ?_
    refine O_nil ?_
    refine Gh_e ⟨⟨14, [(0, .i a0), (2, .po 0 0), (3, .i 2), (9, .bool (decide (a0 < 0) || decide (a0 > 12)))]⟩, [.lv 2 [.i 0, .ro []]]⟩ ?_
    refine W_ret ?_
    replace h := Option.some.inj h; subst h
    exact Fin_free (l := [.agg [.i 0, .ro []], .i 2]) (by kernel_rfl) (by kernel_rfl) rfl
  · replace h := fork_f c3 h
    simp only [Bool.or_eq_false_iff, decide_eq_false_iff_not] at c3
    refine W_skip ?_
    refine Gh_e ⟨⟨14, [(0, .i a0), (2, .po 0 0)]⟩, [.lv 2 [.i 0, .ro []]]⟩ ?_
    obtain ⟨M, rfl⟩ : ∃ M : Nat, a0 = (M : Int) := ⟨a0.toNat, by omega⟩
    refine W_seq ?_
    refine W_gh ?_
    refine W_reg ?_
    refine O_q 1 ?_
    refine O_wc (xs := [.i (M : Int)]) (by kernel_rfl) (by kernel_rfl) ?_
    refine empty_eq2 (by omega) (fun q H' m hq hs hf hm => ?_)
    replace hf : Fr 1 [.lv 2 [.i 0, .ro []]] H' := hf
    have g0 : H'[0]? = some (.lv 2 [.i 0, .ro []]) := hf 0 (by omega)
    have hl := get_lt hs
    refine O_wc (xs := [.po q 0]) (by kernel_rfl) (by kernel_rfl) ?_
    refine bounds_eq (by omega) (by omega) hs (fun b rid H4 hnb hf4 => ?_)
    have g2 : H4[0]? = some (.lv 2 [.i 0, .ro []]) := (hf4 0 (by omega)).trans g0
    refine O_st (o := 0) (sz := 2) (cs := [.i 0, .ro []]) (id := 0) [.i ((M + 1 - 1 : Nat) : Int), .own b (M + 1) 0 (M + 1)] [.i ((M + 1 - 1 : Nat) : Int), .own b (M + 1) 0 (M + 1)] g2 ?_
    refine O_q 1 ?_
    refine O_nil ?_
    refine Gh_e ⟨⟨14, [(2, .po 0 0), (3, .i 0)]⟩, H4.set 0 (.lv 2 [.i ((M + 1 - 1 : Nat) : Int), .own b (M + 1) 0 (M + 1)])⟩ ?_
    refine W_ret ?_
    have hh := Option.some.inj h
    rw [show ((M : Int) + 1).toNat = M + 1 by omega] at hh
    subst hh
    have hmat : matL (M + 1) freeM = matL (M + 1) m := matL_congr (fun a b ha hb => (hm a b ha hb).symm)
    refine Fin_pk (l := [.agg [.i ((M + 1 - 1 : Nat) : Int), .own b (M + 1) 0 (M + 1)], .i 0]) (res_box rfl (sq_self g2) rfl rfl) (pk_tup (mapO_cons (pk_agg (mapO_cons (y := .i (M : Int)) ?_ (mapO_cons (y := .ro ((matL (M + 1) freeM).map (cL cI_i64))) ?_ rfl))) rfl))
    · exact pk_free rfl
    · rw [hmat]; exact pk_NB (hnb.set (by omega))

theorem box2 {b N : Nat} {m : Nat → Nat → Int} {L : Nat} {H : List Obj} {rid : Nat → Nat} {l : List (List Int)} (hl : l = matL (N + 1) m) (h : NB L H b (N + 1) m rid) {d : Nat} :
    mapO (pk (d + 2) H) [.i ((N + 1 - 1 : Nat) : Int), .own b (N + 1) 0 (N + 1)] = some [.i (N : Int), .ro (l.map (cL cI_i64))] := by
  subst hl
  exact mapO_cons (pk_free rfl) (mapO_cons (pk_NB h) rfl)

theorem p35 (a0 : SBounds) (a1 a2 a3 : Int) (r : SBounds × Int) (h : m35 a0 a1 a2 a3 = some r) : Pt E0 hp 35 [.agg (cSBounds a0), .i a1, .i a2, .i a3] (.tup [.agg [.i r.1.N, .ro (r.1.Most.map (cL cI_i64))], .i r.2]) := by
  obtain ⟨c, _, e32, hR⟩ := check_eq0 a0
  unfold m35 at h
  rw [e32] at h
  simp only [Option.bind_some] at h
  refine Pt_W fn35 rfl (by decide) ?_
  refine W_seq ?_
  refine W_gh ?_
  refine W_reg ?_
  refine O_p 3 ?_
  refine O_nil ?_
  refine Gh_e ⟨⟨57, [(1, .i a1), (2, .i a2), (3, .i a3), (4, .po 0 0), (8, .po 1 0)]⟩, [.lv 2 (cSBounds a0), .lv 2 [.i 0, .ro []]]⟩ ?_
  refine W_seq ?_
  refine W_seq ?_
  refine W_gh ?_
  refine W_reg ?_
  refine O_p 1 ?_
  refine O_pt (xs := [.agg (cSBounds a0)]) (by kernel_rfl) (bels_cons (okSBounds.bel a0) rfl) rfl (p32 a0 c e32) ?_
  refine O_p 1 ?_
  refine O_nil ?_
  refine Gh_e ⟨⟨57, [(1, .i a1), (2, .i a2), (3, .i a3), (4, .po 0 0), (8, .po 1 0), (10, .i c)]⟩, [.lv 2 (cSBounds a0), .lv 2 [.i 0, .ro []]]⟩ ?_
  refine W_seq ?_
  refine W_gh ?_
  refine W_reg ?_
  refine O_p 2 ?_
  refine O_nil ?_
  refine Gh_e ⟨⟨57, [(1, .i a1), (2, .i a2), (3, .i a3), (4, .po 0 0), (8, .po 1 0), (10, .i c), (15, .bool (c != 0))]⟩, [.lv 2 (cSBounds a0), .lv 2 [.i 0, .ro []]]⟩ ?_
  refine W_gh ?_
  refine W_cond (c := (c != 0)) (by kernel_rfl) (fun hc => ?_) (fun hc => ?_)
  · replace h := fork_t hc h
    refine W_seq ?_
    refine W_gh ?_
    refine W_reg ?_
    refine O_p 4 ?_
    refine O_nil ?_
    refine Gh_e ⟨⟨57, [(1, .i a1), (2, .i a2), (3, .i a3), (4, .po 0 0), (8, .po 1 0), (9, .i c), (15, .bool (c != 0))]⟩, [.lv 2 (cSBounds a0), .lv 2 [.i 0, .ro []]]⟩ ?_
    refine W_ret ?_
    replace h := Option.some.inj h; subst h
    exact Fin_free (l := [.agg [.i 0, .ro []], .i c]) (by kernel_rfl) (by kernel_rfl) rfl
  replace h := fork_f hc h
  have hc0 : c = 0 := by simpa using hc
  refine W_skip ?_
  refine Gh_e ⟨⟨57, [(1, .i a1), (2, .i a2), (3, .i a3), (4, .po 0 0), (8, .po 1 0)]⟩, [.lv 2 (cSBounds a0), .lv 2 [.i 0, .ro []]]⟩ ?_
  refine W_seq ?_
  refine W_gh ?_
  refine W_block ?_
  refine W_seq ?_
  refine W_cut ⟨⟨57, [(1, .i a1), (2, .i a2), (3, .i a3), (4, .po 0 0), (8, .po 1 0), (18, .bool (decide (a1 < 0) || decide (a1 > a0.N) || decide (a2 < 0) || decide (a2 > a0.N)))]⟩, [.lv 2 (cSBounds a0), .lv 2 [.i 0, .ro []]]⟩ ?_ ?_
  · generalize e_g1 : (decide (a1 < 0) || decide (a1 > a0.N) || decide (a2 < 0) || decide (a2 > a0.N)) = g1
    refine W_gh ?_
    refine W_reg ?_
    refine O_p 3 ?_
    refine O_fork (n := 21) (decide (a1 < 0)) (by kernel_rfl) (fun c2 => ?_) (fun c2 => ?_)
    · refine O_p 17 ?_
      refine O_nil ?_
      refine Gh_e ⟨⟨57, [(1, .i a1), (2, .i a2), (3, .i a3), (4, .po 0 0), (8, .po 1 0), (18, .bool true)]⟩, [.lv 2 (cSBounds a0), .lv 2 [.i 0, .ro []]]⟩ ?_
      have q := e_g1; simp only [c2, Bool.true_or] at q; subst q
      show _ = _
      kernel_rfl
    refine O_p 6 ?_
    refine O_fork (n := 27) (decide (a1 > a0.N)) (by kernel_rfl) (fun c3 => ?_) (fun c3 => ?_)
    · refine O_p 11 ?_
      refine O_nil ?_
      refine Gh_e ⟨⟨57, [(1, .i a1), (2, .i a2), (3, .i a3), (4, .po 0 0), (8, .po 1 0), (18, .bool true)]⟩, [.lv 2 (cSBounds a0), .lv 2 [.i 0, .ro []]]⟩ ?_
      have q := e_g1; simp only [c2, c3, Bool.true_or, Bool.false_or] at q; subst q
      show _ = _
      kernel_rfl
    refine O_p 4 ?_
    refine O_fork (n := 31) (decide (a2 < 0)) (by kernel_rfl) (fun c4 => ?_) (fun c4 => ?_)
    · refine O_p 7 ?_
      refine O_nil ?_
      refine Gh_e ⟨⟨57, [(1, .i a1), (2, .i a2), (3, .i a3), (4, .po 0 0), (8, .po 1 0), (18, .bool true)]⟩, [.lv 2 (cSBounds a0), .lv 2 [.i 0, .ro []]]⟩ ?_
      have q := e_g1; simp only [c2, c3, c4, Bool.true_or, Bool.false_or] at q; subst q
      show _ = _
      kernel_rfl
    · refine O_p 7 ?_
      refine O_nil ?_
      refine Gh_e ⟨⟨57, [(1, .i a1), (2, .i a2), (3, .i a3), (4, .po 0 0), (8, .po 1 0), (18, .bool (decide (a2 > a0.N)))]⟩, [.lv 2 (cSBounds a0), .lv 2 [.i 0, .ro []]]⟩ ?_
      have q := e_g1; simp only [c2, c3, c4, Bool.false_or] at q; subst q
      show _ = _
      kernel_rfl
  refine W_gh ?_
  refine W_cond (c := (decide (a1 < 0) || decide (a1 > a0.N) || decide (a2 < 0) || decide (a2 > a0.N))) (by kernel_rfl) (fun c3 => ?_) (fun c3 => ?_)
  · replace h := fork_t c3 h
    refine W_seq ?_
    refine W_gh ?_
    refine W_reg ?_
    refine O_p 3 ?_
    refine O_nil ?_
    refine Gh_e ⟨⟨57, [(1, .i a1), (2, .i a2), (3, .i a3), (4, .po 0 0), (8, .po 1 0), (9, .i 2), (18, .bool (decide (a1 < 0) || decide (a1 > a0.N) || decide (a2 < 0) || decide (a2 > a0.N)))]⟩, [.lv 2 (cSBounds a0), .lv 2 [.i 0, .ro []]]⟩ ?_
    refine W_ret ?_
    replace h := Option.some.inj h; subst h
    exact Fin_free (l := [.agg [.i 0, .ro []], .i 2]) (by kernel_rfl) (by kernel_rfl) rfl
  replace h := fork_f c3 h
  generalize hg1 : (decide (a1 < 0) || decide (a1 > a0.N) || decide (a2 < 0) || decide (a2 > a0.N)) = g1
  rw [c3] at hg1
  subst hg1
  refine W_seq ?_
  refine W_gh ?_
  refine W_reg ?_
  refine O_p 4 ?_
  refine O_nil ?_
  refine Gh_e ⟨⟨57, [(1, .i a1), (2, .i a2), (3, .i a3), (4, .po 0 0), (8, .po 1 0), (18, .bool false), (38, .bool (a1 == a2))]⟩, [.lv 2 (cSBounds a0), .lv 2 [.i 0, .ro []]]⟩ ?_
  refine W_gh ?_
  refine W_cond (c := (a1 == a2)) (by kernel_rfl) (fun c4 => ?_) (fun c4 => ?_)
  · replace h := fork_t c4 h
    refine W_seq ?_
    refine W_gh ?_
    refine W_reg ?_
    refine O_p 3 ?_
    refine O_nil ?_
    refine Gh_e ⟨⟨57, [(1, .i a1), (2, .i a2), (3, .i a3), (4, .po 0 0), (8, .po 1 0), (9, .i 1), (18, .bool false), (38, .bool (a1 == a2))]⟩, [.lv 2 (cSBounds a0), .lv 2 [.i 0, .ro []]]⟩ ?_
    refine W_ret ?_
    replace h := Option.some.inj h; subst h
    exact Fin_free (l := [.agg [.i 0, .ro []], .i 1]) (by kernel_rfl) (by kernel_rfl) rfl
  replace h := fork_f c4 h
  have e67 : m67 a3 = some (decide (a3 ≥ (-64000000)) && decide (a3 ≤ 64000000)) := rfl
  generalize hIn : (decide (a3 ≥ (-64000000)) && decide (a3 ≤ 64000000)) = inn at h e67
  refine W_seq ?_
  refine W_gh ?_
  refine W_reg ?_
  refine O_p 1 ?_
  refine O_pt (xs := [.i a3]) (by kernel_rfl) rfl rfl (p67 a3 inn e67) ?_
  refine O_p 2 ?_
  refine O_nil ?_
  refine Gh_e ⟨⟨57, [(1, .i a1), (2, .i a2), (3, .i a3), (4, .po 0 0), (8, .po 1 0), (18, .bool false), (38, .bool (a1 == a2)), (43, .bool (!inn))]⟩, [.lv 2 (cSBounds a0), .lv 2 [.i 0, .ro []]]⟩ ?_
  refine W_gh ?_
  refine W_cond (c := (!inn)) (by kernel_rfl) (fun c5 => ?_) (fun c5 => ?_)
  · replace h := fork_t c5 h
    refine W_seq ?_
    refine W_gh ?_
    refine W_reg ?_
    refine O_p 3 ?_
    refine O_nil ?_
    refine Gh_e ⟨⟨57, [(1, .i a1), (2, .i a2), (3, .i a3), (4, .po 0 0), (8, .po 1 0), (9, .i 2), (18, .bool false), (38, .bool (a1 == a2)), (43, .bool (!inn))]⟩, [.lv 2 (cSBounds a0), .lv 2 [.i 0, .ro []]]⟩ ?_
    refine W_ret ?_
    replace h := Option.some.inj h; subst h
    exact Fin_free (l := [.agg [.i 0, .ro []], .i 2]) (by kernel_rfl) (by kernel_rfl) rfl
  replace h := fork_f c5 h
  cases h6 : decide (a0.N > 6)
  case true => rw [h6, cond_true] at h; cases h
  rw [h6, cond_false] at h
  have h6' := of_decide_eq_false h6
  obtain ⟨N, hN, hrt⟩ := (hR hc0).rt h6'
  have hN7 := hrt.hN
  simp only [Bool.or_eq_false_iff, decide_eq_false_iff_not] at c3
  obtain ⟨i, rfl⟩ : ∃ i : Nat, a1 = (i : Int) := ⟨a1.toNat, by omega⟩
  obtain ⟨j, rfl⟩ : ∃ j : Nat, a2 = (j : Int) := ⟨a2.toNat, by omega⟩
  have hcs : cSBounds a0 = [.i (N : Int), .ro (a0.Most.map (cL cI_i64))] := by rw [cSB, hN]
  rw [hrt.sq.1, hN, Int.toNat_natCast, Int.toNat_natCast] at h
  replace h := Option.some.inj h; subst h
  refine W_skip ?_
  refine Gh_e ⟨⟨57, [(1, .i (i : Int)), (2, .i (j : Int)), (3, .i a3), (4, .po 0 0), (8, .po 1 0), (18, .bool false), (38, .bool ((i : Int) == (j : Int)))]⟩, [.lv 2 (cSBounds a0), .lv 2 [.i 0, .ro []]]⟩ ?_
  refine Gh_e ⟨⟨57, [(1, .i (i : Int)), (2, .i (j : Int)), (3, .i a3), (4, .po 0 0), (8, .po 1 0), (18, .bool false)]⟩, [.lv 2 (cSBounds a0), .lv 2 [.i 0, .ro []]]⟩ ?_
  refine Gh_e ⟨⟨57, [(1, .i (i : Int)), (2, .i (j : Int)), (3, .i a3), (4, .po 0 0), (8, .po 1 0)]⟩, [.lv 2 (cSBounds a0), .lv 2 [.i 0, .ro []]]⟩ ?_
  refine Gh_e ⟨⟨57, [(1, .i (i : Int)), (2, .i (j : Int)), (3, .i a3), (4, .po 0 0), (8, .po 1 0)]⟩, [.lv 2 (cSBounds a0), .lv 2 [.i 0, .ro []]]⟩ ?_
  refine W_seq ?_
  refine W_gh ?_
  refine W_reg ?_
  refine O_p 1 ?_
  refine O_wc (xs := [.agg [.i (N : Int), .ro (a0.Most.map (cL cI_i64))]]) (by kernel_rfl) (by rw [← hN]; kernel_rfl) ?_
  refine of_eq (by omega) hrt.sq (fun q H' m hq hs hm hf => ?_)
  replace hf : Fr 2 [.lv 2 (cSBounds a0), .lv 2 [.i 0, .ro []]] H' := hf
  replace hq : 2 ≤ q := hq
  have g1 : H'[1]? = some (.lv 2 [.i 0, .ro []]) := hf 1 (by omega)
  refine O_q 1 ?_
  refine O_nil ?_
  refine Gh_e ⟨⟨57, [(1, .i (i : Int)), (2, .i (j : Int)), (3, .i a3), (8, .po 1 0), (11, .po q 0)]⟩, H'⟩ ?_
  refine W_seq ?_
  refine W_gh ?_
  refine W_reg ?_
  refine O_q 4 ?_
  refine O_wc (xs := [.po q 0, .i (i : Int), .i (j : Int), .i a3]) (by kernel_rfl) (by kernel_rfl) ?_
  refine lower_eq (by omega) (by omega) hs ?_
  refine O_nil ?_
  refine Gh_e ⟨⟨57, [(8, .po 1 0), (11, .po q 0)]⟩, H'.set q (sqo (N + 1) (low m i j a3))⟩ ?_
  have hs2 := sq_self (o' := sqo (N + 1) (low m i j a3)) hs
  have g2 := get_ne (o' := sqo (N + 1) (low m i j a3)) g1 (show 1 ≠ q by omega)
  generalize H'.set q (sqo (N + 1) (low m i j a3)) = H2 at hs2 g2 ⊢
  have hl2 := get_lt hs2
  refine W_seq ?_
  refine W_gh ?_
  refine W_reg ?_
  refine O_q 1 ?_
  refine O_wc (xs := [.po q 0]) (by kernel_rfl) (by kernel_rfl) ?_
  refine bounds_eq (by omega) (by omega) hs2 (fun b rid H4 hnb hf4 => ?_)
  replace hf4 : Fr H2.length H2 H4 := hf4
  replace hnb : NB H2.length H4 b (N + 1) (low m i j a3) rid := hnb
  have g4 : H4[1]? = some (.lv 2 [.i 0, .ro []]) := (hf4 1 (by omega)).trans g2
  refine O_st (o := 0) (sz := 2) (cs := [.i 0, .ro []]) (id := 1) [.i ((N + 1 - 1 : Nat) : Int), .own b (N + 1) 0 (N + 1)] [.i ((N + 1 - 1 : Nat) : Int), .own b (N + 1) 0 (N + 1)] g4 ?_
  refine O_q 1 ?_
  refine O_nil ?_
  refine Gh_e ⟨⟨57, [(8, .po 1 0), (9, .i 0)]⟩, H4.set 1 (.lv 2 [.i ((N + 1 - 1 : Nat) : Int), .own b (N + 1) 0 (N + 1)])⟩ ?_
  refine W_ret ?_
  have hmat : addL a0.Most (N + 1) i j a3 = matL (N + 1) (low m i j a3) := matL_congr (fun a b ha hb => by
    unfold low
    rw [hm i j (by omega) (by omega)]
    by_cases e : ent a0.Most i j = -1099511627776 ∨ a3 < ent a0.Most i j
    · rw [if_pos e]
      by_cases e2 : a = i ∧ b = j
      · obtain ⟨rfl, rfl⟩ := e2; rw [up2_eq, if_pos ⟨rfl, rfl, e⟩]
      · rw [up2_ne e2, if_neg (fun g => e2 ⟨g.1, g.2.1⟩), hm a b ha hb]
    · rw [if_neg e, if_neg (fun g => e g.2.2), hm a b ha hb])
  exact Fin_pk (l := [.agg [.i ((N + 1 - 1 : Nat) : Int), .own b (N + 1) 0 (N + 1)], .i 0]) (res_box rfl (sq_self g4) rfl rfl) (pk_tup (mapO_cons (pk_agg (box2 hmat (hnb.set (by omega)))) rfl))
end G11

namespace G11
open Go hiding Obj mark
open Go.Pl Go.Am Go.Am.As
set_option linter.unusedVariables false
set_option maxHeartbeats 400000

theorem oneOf_po {l : List AV} {j : Nat} (h : oneOf l = .po j 0) : l = [.po j 0] := by
  match l, h with
  | [], h => cases h
  | [x], h => exact congrArg (fun y => [y]) h
  | x :: y :: l, h => cases h

/-- a call that makes one object, apart -/
theorem mk_of {f : Nat} {xs : List AV} {P : List AV → Prop} (hf : hp f = true) (h : WC E0 hp false f xs [] (fun v H' => ∃ j sz cs, v = .po j 0 ∧ H'[j]? = some (.lv sz cs) ∧ AV.bels 0 cs = true ∧ P cs)) :
    ∃ cs, P cs ∧ ∃ n, cIT E0.fns (execT E0 hp n) f (.pown 0 0 0 0 :: xs) = some (.tup [.pown 0 0 0 0, .agg cs]) := by
  obtain ⟨n, v, H', hd, j, sz, cs, rfl, hj, hbl, hP⟩ := h
  refine ⟨cs, hP, n, ?_⟩
  unfold doCall at hd
  simp only [cond_false] at hd
  rw [if_pos hf] at hd
  unfold cHT at hd
  unfold cIT
  split at hd
  case h_2 => simp at hd
  rename_i rf hrf
  try simp only [hrf]
  split at hd
  case isFalse => simp at hd
  rename_i hc
  rw [if_neg (by simp; omega)]
  show (if xs.length = rf.nargs ∧ rf.nargs ≤ rf.ntmps then _ else none) = _
  rw [if_pos hc]
  change (match execT E0 hp n rf.body 0 ⟨startT rf xs, []⟩ with | some (.exit _, _) => none | some (_, s') => _ | none => none) = _ at hd
  split at hd
  · simp at hd
  · rename_i e s' hne he
    rw [he]
    split at hd
    case h_2 => simp at hd
    rename_i l hl
    simp only [Option.some.injEq, Prod.mk.injEq] at hd
    obtain ⟨h1, rfl⟩ := hd
    have hl2 := oneOf_po h1
    subst hl2
    have hj2 : s'.H[j]? = some (.live .norm sz [cs]) := hj
    cases e with
    | exit i => exact (hne i rfl).elim
    | normal => simp only [hl, hj2, hbl, if_true]
    | ret => simp only [hl, hj2, hbl, if_true]
  · simp at hd

theorem WD_mkc {b0 k d f sz : Nat} {os : List (Nat × ROp)} {t : T} {H : List Obj} {K : T → List Obj → List FP → Prop} {args : List RX} {xs cs : List AV} (hr : H[b0 + k]? = some .rsv) (ha : args.map (evT E0.glob t) = xs) (hb : AV.bels 0 xs = true) (hsz : cs.length = sz)
    (hm : ∃ n, cIT E0.fns (execT E0 hp n) f (.pown 0 0 0 0 :: xs) = some (.tup [.pown 0 0 0 0, .agg cs]))
    (hk : WD E0 hp b0 os (t.put d (.po (b0 + k) 0)) (H.set (b0 + k) (.lv sz cs)) (fun t' H' fs => K t' H' ({ w := [b0 + k] } :: fs))) : WD E0 hp b0 ((k, ⟨some d, none, .mkc f args⟩) :: os) t H K := by
  subst ha hsz
  obtain ⟨n, hm⟩ := hm
  obtain ⟨n2, t', H', fs, h2, h3⟩ := hk
  refine ⟨max n n2, t', H', _, ?_, h3⟩
  have hl := get_lt hr
  have e1 : wantT t (none : Option (Nat × Bool)) = some true := rfl
  have e2 : plOk H (b0 + k) (.mkc f args) = true := by simp [plOk, hr]
  have he' : actDT E0.glob (cIT E0.fns (execT E0 hp n)) (b0 + k) ⟨some d, none, .mkc f args⟩ t H = some (.po (b0 + k) 0, H.set (b0 + k) (.lv cs.length cs), { w := [b0 + k] }) := by
    simp only [actDT, evalDe, e1, e2, if_true, mkObj, hb, hm, putObj, hl]
    rfl
  rw [runDT, actDT_le (cIT_mono E0.fns (execT_mono (Nat.le_max_left n n2))) he']
  simp only [frc_eq]
  rw [show putD t (some d) (.po (b0 + k) 0) = t.put d (.po (b0 + k) 0) from rfl, runDT_le (cIT_mono E0.fns (execT_mono (Nat.le_max_right n n2))) os h2]

theorem sqb {n : Nat} {m : Nat → Nat → Int} : AV.bels 0 (.i (n : Int) :: sqc m) = true := bels_cons rfl (sqc_bel m)

theorem mk59 {M : Nat} (hM : M + 1 ≤ 13) : ∃ cs, (∃ m, cs = .i ((M + 1 : Nat) : Int) :: sqc m ∧ ∀ i j, i < M + 1 → j < M + 1 → m i j = freeM i j) ∧
    ∃ n, cIT E0.fns (execT E0 hp n) 59 (.pown 0 0 0 0 :: [.i (M : Int)]) = some (.tup [.pown 0 0 0 0, .agg cs]) :=
  mk_of (P := fun cs => ∃ m, cs = .i ((M + 1 : Nat) : Int) :: sqc m ∧ ∀ i j, i < M + 1 → j < M + 1 → m i j = freeM i j) rfl
    (empty_eq2 hM fun q H' m _ hs _ hm => ⟨q, 170, _, rfl, hs, sqb, m, rfl, hm⟩)

theorem mk70 {N : Nat} {l : List (List Int)} (hn : N + 1 ≤ 13) (hl : Sq (N + 1) l) : ∃ cs, (∃ m, cs = .i ((N + 1 : Nat) : Int) :: sqc m ∧ ∀ i j, i < N + 1 → j < N + 1 → m i j = ent l i j) ∧
    ∃ n, cIT E0.fns (execT E0 hp n) 70 (.pown 0 0 0 0 :: [.agg [.i (N : Int), .ro (l.map (cL cI_i64))]]) = some (.tup [.pown 0 0 0 0, .agg cs]) :=
  mk_of (P := fun cs => ∃ m, cs = .i ((N + 1 : Nat) : Int) :: sqc m ∧ ∀ i j, i < N + 1 → j < N + 1 → m i j = ent l i j) rfl
    (of_eq hn hl fun q H' m _ hs hm _ => ⟨q, 170, _, rfl, hs, sqb, m, rfl, hm⟩)

theorem grow_f {id id2 ax bx n n2 i j : Nat} {m m2 : Nat → Nat → Int} {H : List Obj} {K : AV → List Obj → Prop} (hi : i < 13) (hj : j < 13) (hs : H[id]? = some (sqo n m)) (hs2 : H[id2]? = some (sqo n2 m2))
    (hax : H[ax]? = some (.lv 1 [.po id 0])) (hbx : H[bx]? = some (.lv 1 [.po id2 0])) (hK : K (.tup []) (H.set id2 (sqo n2 (up2 m2 i j (m i j))))) : WC E0 hp false 74 [.i (i : Int), .i (j : Int), .po ax 0, .po bx 0] H K := by
  refine W_call fn74 (.inr (snaps_none 2 rfl rfl)) rfl (by decide) ?_
  refine W_gh ?_
  refine W_draw ?_
  refine O_ldb (o := 0) hbx (by kernel_rfl) rfl ?_
  refine O_q 2 ?_
  refine O_ldb (o := 0) hax (by kernel_rfl) rfl ?_
  refine O_q 4 ?_
  refine O_sqld (i := i) (j := j) hi hj hs ?_
  refine O_q 2 ?_
  refine O_sqst (v := m i j) (i := i) (j := j) hi hj hs2 ?_
  refine O_nil ?_
  refine Gh_e ⟨⟨21, []⟩, H.set id2 (sqo n2 (up2 m2 i j (m i j)))⟩ ?_
  exact ⟨[], rfl, hK⟩

variable {b0 k : Nat} {os : List (Nat × ROp)} {t : T} {H : List Obj} {K : T → List Obj → List FP → Prop}
/-- n operations that only compute, and the slots behind them -/
theorem WD_qs (n : Nat) (t' : T) (fs0 : List FP) (hk : WD E0 hp b0 (os.drop n) t' H (fun t' H' fs => K t' H' (fs0 ++ fs))) (h : okD E0.glob b0 n os t H = true := by kernel_rfl) (e : runDs E0.glob b0 n os t H = (t', H, fs0) := by kernel_rfl) : WD E0 hp b0 os t H K := by
  refine WD_ps n h ?_
  rw [e]; exact hk
theorem WD_at (t' : T) (hk : WD E0 hp b0 os t' H K) (h : t = t' := by kernel_rfl) : WD E0 hp b0 os t H K := by subst h; exact hk
theorem WD_sqst {id n i j : Nat} {v : Int} {m : Nat → Nat → Int} {x y : RX} (hi : i < 13) (hj : j < 13) (hH : H[id]? = some (sqo n m)) (hx : evT E0.glob t x = .po id (1 + i * 13 + j * 1)) (hy : evT E0.glob t y = .i v)
    (hk : WD E0 hp b0 os t (H.set id (sqo n (up2 m i j v))) (fun t' H' fs => K t' H' ({ w := [id] } :: fs))) : WD E0 hp b0 ((k, ⟨none, none, .store 1 x y⟩) :: os) t H K := by
  refine WD_op rfl (fp := { w := [id] }) (by simp [fpOfe, hx, refs]) ?_
  refine WO_step (v := .tup []) (H1 := H.set id (sqo n (up2 m i j v))) (by simp [RO.kind]) rfl ?_ (O_nil hk)
  simp only [ev1, evalOpe, RO.kind, evalWe, hx, hy]
  simp only [storeAt, getLive, hH, nlAt, AV.cells, List.length_singleton]
  rw [if_pos ⟨trivial, trivial, by omega, rfl, rfl⟩]
  simp only [List.getElem?_cons_zero, List.set_cons_zero, putAt]
  rw [show 1 + i * 13 + j * 1 = (i * 13 + j) + 1 by omega, List.set_cons_succ, sqc_set hi hj]

theorem span_neg {a : SSpan} {e : Int} (h : m73 a = some e) (he : (e != 0) = false) : IntKind.i64.wrap (0 - a.Low) = -a.Low := by
  have he : e = 0 := by simpa using he
  subst he
  unfold m73 m93 at h
  simp only [Option.bind_some] at h
  cases h1 : (decide (a.Low ≥ 0) && decide (a.Low ≤ 1000000))
  · rw [h1] at h; simp at h
  · simp only [Bool.and_eq_true, decide_eq_true_eq] at h1
    rw [wrap_i64 (by omega) (by omega)]; omega

theorem p37 (a0 : SBounds) (a1 : SSpan) (r : SBounds × Int) (h : m37 a0 a1 = some r) : Pt E0 hp 37 [.agg (cSBounds a0), .agg (cSSpan a1)] (.tup [.agg [.i r.1.N, .ro (r.1.Most.map (cL cI_i64))], .i r.2]) := by
  obtain ⟨c, _, e32, hR⟩ := check_eq0 a0
  unfold m37 at h
  rw [e32] at h
  simp only [Option.bind_some] at h
  refine Pt_W fn37 rfl (by decide) ?_
  refine W_seq ?_
  refine W_gh ?_
  refine W_reg ?_
  refine O_p 4 ?_
  refine O_nil ?_
  refine Gh_e ⟨⟨58, [(2, .po 0 0), (3, .po 1 0), (4, .po 2 0)]⟩, [.lv 2 (cSBounds a0), .lv 2 [.i a1.Low, .i a1.High], .lv 2 [.i 0, .ro []]]⟩ ?_
  refine W_seq ?_
  refine W_seq ?_
  refine W_gh ?_
  refine W_reg ?_
  refine O_p 1 ?_
  refine O_pt (xs := [.agg (cSBounds a0)]) (by kernel_rfl) (bels_cons (okSBounds.bel a0) rfl) rfl (p32 a0 c e32) ?_
  refine O_p 1 ?_
  refine O_nil ?_
  refine Gh_e ⟨⟨58, [(2, .po 0 0), (3, .po 1 0), (4, .po 2 0), (6, .i c)]⟩, [.lv 2 (cSBounds a0), .lv 2 [.i a1.Low, .i a1.High], .lv 2 [.i 0, .ro []]]⟩ ?_
  refine W_seq ?_
  refine W_gh ?_
  refine W_reg ?_
  refine O_p 2 ?_
  refine O_nil ?_
  refine Gh_e ⟨⟨58, [(2, .po 0 0), (3, .po 1 0), (4, .po 2 0), (6, .i c), (13, .bool (c != 0))]⟩, [.lv 2 (cSBounds a0), .lv 2 [.i a1.Low, .i a1.High], .lv 2 [.i 0, .ro []]]⟩ ?_
  refine W_gh ?_
  refine W_cond (c := (c != 0)) (by kernel_rfl) (fun hc => ?_) (fun hc => ?_)
  · replace h := fork_t hc h
    refine W_seq ?_
    refine W_gh ?_
    refine W_reg ?_
    refine O_p 4 ?_
    refine O_nil ?_
    refine Gh_e ⟨⟨58, [(2, .po 0 0), (3, .po 1 0), (4, .po 2 0), (5, .i c), (13, .bool (c != 0))]⟩, [.lv 2 (cSBounds a0), .lv 2 [.i a1.Low, .i a1.High], .lv 2 [.i 0, .ro []]]⟩ ?_
    refine W_ret ?_
    replace h := Option.some.inj h; subst h
    exact Fin_free (l := [.agg [.i 0, .ro []], .i c]) (by kernel_rfl) (by kernel_rfl) rfl
  replace h := fork_f hc h
  have hc0 : c = 0 := by simpa using hc
  refine W_skip ?_
  refine Gh_e ⟨⟨58, [(2, .po 0 0), (3, .po 1 0), (4, .po 2 0)]⟩, [.lv 2 (cSBounds a0), .lv 2 [.i a1.Low, .i a1.High], .lv 2 [.i 0, .ro []]]⟩ ?_
  refine W_seq ?_
  refine W_seq ?_
  refine W_gh ?_
  refine W_reg ?_
  refine O_p 3 ?_
  refine O_nil ?_
  refine Gh_e ⟨⟨58, [(2, .po 0 0), (3, .po 1 0), (4, .po 2 0), (18, .bool (a0.N == 12))]⟩, [.lv 2 (cSBounds a0), .lv 2 [.i a1.Low, .i a1.High], .lv 2 [.i 0, .ro []]]⟩ ?_
  refine W_gh ?_
  refine W_cond (c := (a0.N == 12)) (by kernel_rfl) (fun c1 => ?_) (fun c1 => ?_)
  · replace h := fork_t c1 h
    refine W_seq ?_
    refine W_gh ?_
    refine W_reg ?_
    refine O_p 3 ?_
    refine O_nil ?_
    refine Gh_e ⟨⟨58, [(2, .po 0 0), (3, .po 1 0), (4, .po 2 0), (5, .i 5), (18, .bool (a0.N == 12))]⟩, [.lv 2 (cSBounds a0), .lv 2 [.i a1.Low, .i a1.High], .lv 2 [.i 0, .ro []]]⟩ ?_
    refine W_ret ?_
    replace h := Option.some.inj h; subst h
    exact Fin_free (l := [.agg [.i 0, .ro []], .i 5]) (by kernel_rfl) (by kernel_rfl) rfl
  replace h := fork_f c1 h
  refine W_skip ?_
  refine Gh_e ⟨⟨58, [(2, .po 0 0), (3, .po 1 0), (4, .po 2 0)]⟩, [.lv 2 (cSBounds a0), .lv 2 [.i a1.Low, .i a1.High], .lv 2 [.i 0, .ro []]]⟩ ?_
  obtain ⟨e, e73, h⟩ := bind_some h
  refine W_seq ?_
  refine W_seq ?_
  refine W_gh ?_
  refine W_reg ?_
  refine O_p 1 ?_
  refine O_pt (xs := [.agg (cSSpan a1)]) (by kernel_rfl) (bels_cons (okSSpan.bel a1) rfl) rfl (p73 a1 e e73) ?_
  refine O_p 1 ?_
  refine O_nil ?_
  refine Gh_e ⟨⟨58, [(2, .po 0 0), (3, .po 1 0), (4, .po 2 0), (7, .i e)]⟩, [.lv 2 (cSBounds a0), .lv 2 [.i a1.Low, .i a1.High], .lv 2 [.i 0, .ro []]]⟩ ?_
  refine W_seq ?_
  refine W_gh ?_
  refine W_reg ?_
  refine O_p 2 ?_
  refine O_nil ?_
  refine Gh_e ⟨⟨58, [(2, .po 0 0), (3, .po 1 0), (4, .po 2 0), (7, .i e), (23, .bool (e != 0))]⟩, [.lv 2 (cSBounds a0), .lv 2 [.i a1.Low, .i a1.High], .lv 2 [.i 0, .ro []]]⟩ ?_
  refine W_gh ?_
  refine W_cond (c := (e != 0)) (by kernel_rfl) (fun c2 => ?_) (fun c2 => ?_)
  · replace h := fork_t c2 h
    refine W_seq ?_
    refine W_gh ?_
    refine W_reg ?_
    refine O_p 4 ?_
    refine O_nil ?_
    refine Gh_e ⟨⟨58, [(2, .po 0 0), (3, .po 1 0), (4, .po 2 0), (5, .i e), (23, .bool (e != 0))]⟩, [.lv 2 (cSBounds a0), .lv 2 [.i a1.Low, .i a1.High], .lv 2 [.i 0, .ro []]]⟩ ?_
    refine W_ret ?_
    replace h := Option.some.inj h; subst h
    exact Fin_free (l := [.agg [.i 0, .ro []], .i e]) (by kernel_rfl) (by kernel_rfl) rfl
  replace h := fork_f c2 h
  refine W_skip ?_
  refine Gh_e ⟨⟨58, [(2, .po 0 0), (3, .po 1 0), (4, .po 2 0)]⟩, [.lv 2 (cSBounds a0), .lv 2 [.i a1.Low, .i a1.High], .lv 2 [.i 0, .ro []]]⟩ ?_
  cases h6 : decide (a0.N > 6)
  case true => rw [h6, cond_true] at h; cases h
  rw [h6, cond_false] at h
  have h6' := of_decide_eq_false h6
  obtain ⟨N, hN, hrt⟩ := (hR hc0).rt h6'
  have hN7 := hrt.hN
  have hlo : IntKind.i64.wrap (0 - a1.Low) = -a1.Low := span_neg e73 c2
  have hcs : cSBounds a0 = [.i (N : Int), .ro (a0.Most.map (cL cI_i64))] := by rw [cSB, hN]
  rw [hrt.sq.1, hN] at h
  replace h := Option.some.inj h; subst h
  rw [hcs]
  obtain ⟨_, ⟨m0, rfl, hm0⟩, hk0⟩ := mk59 (M := N + 1) (by omega)
  obtain ⟨_, ⟨m1, rfl, hm1⟩, hk1⟩ := mk70 (by omega) hrt.sq
  refine W_seq ?_
  refine W_gh ?_
  refine W_drawW (L := 3) rfl ?_
  refine WD_ps 3 (by kernel_rfl) ?_
  refine WD_mkc (sz := 170) (xs := [.i ((N + 1 : Nat) : Int)]) (by kernel_rfl) (by rw [← addI_nat (k := N) (by omega)]; kernel_rfl) rfl (by simp [sqc]) hk0 ?_
  refine WD_ps 1 (by kernel_rfl) ?_
  refine WD_mkc (sz := 170) (xs := [.agg [.i (N : Int), .ro (a0.Most.map (cL cI_i64))]]) (by kernel_rfl) (by kernel_rfl) (bels_cons (okSBounds.bel ⟨(N : Int), a0.Most⟩) rfl) (by simp [sqc]) hk1 ?_
  refine WD_alloc (sz := 1) (by kernel_rfl) rfl ?_
  refine WD_alloc (sz := 1) (by kernel_rfl) rfl ?_
  refine WD_ps 2 (by kernel_rfl) ?_
  refine WD_nil ⟨by kernel_rfl, ?_⟩
  let H1 : List Obj := [.lv 2 [.i (N : Int), .ro (a0.Most.map (cL cI_i64))], .lv 2 [.i a1.Low, .i a1.High], .lv 2 [.i 0, .ro []], sqo (N + 2) m0, sqo (N + 1) m1, .lv 1 [.po 3 0], .lv 1 [.po 4 0]]
  refine Gh_e ⟨⟨58, [(2, .po 0 0), (3, .po 1 0), (4, .po 2 0), (8, .po 5 0), (9, .po 6 0)]⟩, H1⟩ ?_
  have g0 : H1[0]? = some (.lv 2 [.i (N : Int), .ro (a0.Most.map (cL cI_i64))]) := rfl
  have g1 : H1[1]? = some (.lv 2 [.i a1.Low, .i a1.High]) := rfl
  have g2 : H1[2]? = some (.lv 2 [.i 0, .ro []]) := rfl
  have g3 : H1[3]? = some (sqo (N + 2) m0) := rfl
  have g4 : H1[4]? = some (sqo (N + 1) m1) := rfl
  have g5 : H1[5]? = some (.lv 1 [.po 3 0]) := rfl
  have g6 : H1[6]? = some (.lv 1 [.po 4 0]) := rfl
  have g7 : H1.length = 7 := rfl
  generalize H1 = H1 at g0 g1 g2 g3 g4 g5 g6 g7 ⊢
  refine W_seq ?_
  refine W_gh ?_
  refine W_reg ?_
  refine O_ldb (o := 0) g6 (by kernel_rfl) rfl ?_
  refine O_q 1 ?_
  refine O_wc (xs := [.po 4 0, .fn 74 [.po 6 0, .po 5 0]]) (by kernel_rfl) (by kernel_rfl) ?_
  refine each_eq (n := N + 1) (fun i j H' => H'[0]? = some (.lv 2 [.i (N : Int), .ro (a0.Most.map (cL cI_i64))]) ∧ H'[1]? = some (.lv 2 [.i a1.Low, .i a1.High]) ∧ H'[2]? = some (.lv 2 [.i 0, .ro []]) ∧ H'[4]? = some (sqo (N + 1) m1) ∧ H'[5]? = some (.lv 1 [.po 3 0]) ∧ H'[6]? = some (.lv 1 [.po 4 0]) ∧
      ∃ m, H'[3]? = some (sqo (N + 2) m) ∧ ∀ a b, a < N + 2 → b < N + 2 → m a b = if a < N + 1 ∧ b < N + 1 ∧ (a < i ∨ a = i ∧ b < j) then ent a0.Most a b else freeM a b)
    (by omega) (fun i j H' h => ⟨_, h.2.2.2.1⟩) (fun i j H' h => .inr ?_) ⟨g0, g1, g2, g4, g5, g6, m0, g3, fun a b ha hb => by rw [if_neg (by omega)]; exact hm0 a b ha hb⟩ ?_ ?_ ?_
  · obtain ⟨x0, x1, x2, x4, x5, x6, m, x3, x7⟩ := h
    rw [g7]
    exact ⟨get_take x0 (by omega), get_take x1 (by omega), get_take x2 (by omega), get_take x4 (by omega), get_take x5 (by omega), get_take x6 (by omega), m, get_take x3 (by omega), x7⟩
  · rintro i j H2 K' hi hj ⟨x0, x1, x2, x4, x5, x6, m, x3, x7⟩ hk'
    refine grow_f (by omega) (by omega) x4 x3 x6 x5 ?_
    refine hk' _ ⟨get_ne x0 (by omega), get_ne x1 (by omega), get_ne x2 (by omega), get_ne x4 (by omega), get_ne x5 (by omega), get_ne x6 (by omega), _, sq_self x3, fun a b ha hb => ?_⟩
    by_cases e2 : a = i ∧ b = j
    · obtain ⟨rfl, rfl⟩ := e2
      rw [up2_eq, if_pos ⟨hi, hj, by omega⟩]; exact hm1 _ _ hi hj
    · rw [up2_ne e2, x7 a b ha hb]
      by_cases e3 : a < N + 1 ∧ b < N + 1 ∧ (a < i ∨ a = i ∧ b < j)
      · rw [if_pos e3, if_pos ⟨e3.1, e3.2.1, by omega⟩]
      · rw [if_neg e3, if_neg (fun g => e3 ⟨g.1, g.2.1, by omega⟩)]
  · rintro i H2 hi ⟨x0, x1, x2, x4, x5, x6, m, x3, x7⟩
    refine ⟨x0, x1, x2, x4, x5, x6, m, x3, fun a b ha hb => ?_⟩
    rw [x7 a b ha hb]
    by_cases e3 : a < N + 1 ∧ b < N + 1 ∧ (a < i ∨ a = i ∧ b < N + 1)
    · rw [if_pos e3, if_pos ⟨e3.1, e3.2.1, by omega⟩]
    · rw [if_neg e3, if_neg (fun g => e3 ⟨g.1, g.2.1, by omega⟩)]
  rintro H2 ⟨x0, x1, x2, x4, x5, x6, m, x3, x7⟩
  have hl2 := get_lt x6
  refine O_nil ?_
  refine Gh_e ⟨⟨58, [(2, .po 0 0), (3, .po 1 0), (4, .po 2 0), (8, .po 5 0)]⟩, H2⟩ ?_
  refine W_seq ?_
  refine W_gh ?_
  refine W_drawW (L := H2.length) rfl ?_
  rw [List.replicate_zero, List.append_nil]
  refine WD_ldb (o := 0) x5 rfl ?_
  refine WD_qs 1 ⟨58, [(2, .po 0 0), (3, .po 1 0), (4, .po 2 0), (8, .po 5 0), (35, .po 3 0), (36, .po 0 0)]⟩ [{}] ?_
  refine WD_ldb (o := 0) x0 rfl ?_
  refine WD_qs 1 ⟨58, [(2, .po 0 0), (3, .po 1 0), (4, .po 2 0), (8, .po 5 0), (35, .po 3 0), (36, .po 0 0), (37, .i (N : Int)), (38, .i (addI .i64 (N : Int) 1))]⟩ [{}] ?_
  refine WD_ldb (o := 0) x5 rfl ?_
  refine WD_qs 1 ⟨58, [(2, .po 0 0), (3, .po 1 0), (4, .po 2 0), (8, .po 5 0), (35, .po 3 0), (36, .po 0 0), (37, .i (N : Int)), (38, .i (addI .i64 (N : Int) 1)), (39, .po 3 0), (40, .po 0 0)]⟩ [{}] ?_
  refine WD_ldb (o := 0) x0 rfl ?_
  refine WD_qs 2 ⟨58, [(2, .po 0 0), (3, .po 1 0), (4, .po 2 0), (8, .po 5 0), (35, .po 3 0), (36, .po 0 0), (37, .i (N : Int)), (38, .i (addI .i64 (N : Int) 1)), (39, .po 3 0), (40, .po 0 0), (41, .i (N : Int)), (42, .i (addI .i64 (N : Int) 1)), (43, .po 1 1)]⟩ [{}, {}] ?_
  refine WD_ldb (o := 1) x1 rfl ?_
  refine WD_qs 1 ⟨58, [(2, .po 0 0), (3, .po 1 0), (4, .po 2 0), (8, .po 5 0), (35, .po 3 0), (36, .po 0 0), (37, .i (N : Int)), (38, .i (addI .i64 (N : Int) 1)), (39, .po 3 0), (40, .po 0 0), (41, .i (N : Int)), (42, .i (addI .i64 (N : Int) 1)), (43, .po 1 1), (44, .i a1.High), (45, .po 1 0)]⟩ [{}] ?_
  refine WD_ldb (o := 0) x1 rfl ?_
  refine WD_qs 3 ⟨58, [(2, .po 0 0), (3, .po 1 0), (4, .po 2 0), (8, .po 5 0), (35, .po 3 0), (36, .po 0 0), (37, .i (N : Int)), (38, .i (addI .i64 (N : Int) 1)), (39, .po 3 0), (40, .po 0 0), (41, .i (N : Int)), (42, .i (addI .i64 (N : Int) 1)), (43, .po 1 1), (44, .i a1.High), (45, .po 1 0), (46, .i a1.Low), (47, .i (IntKind.i64.wrap (0 - a1.Low))), (48, .po 3 0), (49, .po 3 1)]⟩ [{}, {}, {}] ?_
  refine WD_iaA (o := 1) (id := 3) (i := 0) (by omega) ?_
  refine WD_at ⟨58, [(2, .po 0 0), (3, .po 1 0), (4, .po 2 0), (8, .po 5 0), (35, .po 3 0), (36, .po 0 0), (37, .i (N : Int)), (38, .i (addI .i64 (N : Int) 1)), (39, .po 3 0), (40, .po 0 0), (41, .i (N : Int)), (42, .i (addI .i64 (N : Int) 1)), (43, .po 1 1), (44, .i a1.High), (45, .po 1 0), (46, .i a1.Low), (47, .i (IntKind.i64.wrap (0 - a1.Low))), (48, .po 3 0), (49, .po 3 1), (50, .po 3 1)]⟩ ?_
  refine WD_iaA (o := 1) (id := 3) (i := N + 1) (by omega) ?_ (hix := by rw [← addI_nat (k := N) (by omega)]; kernel_rfl)
  refine WD_at ⟨58, [(2, .po 0 0), (3, .po 1 0), (4, .po 2 0), (8, .po 5 0), (35, .po 3 0), (36, .po 0 0), (37, .i (N : Int)), (38, .i (addI .i64 (N : Int) 1)), (39, .po 3 0), (40, .po 0 0), (41, .i (N : Int)), (42, .i (addI .i64 (N : Int) 1)), (43, .po 1 1), (44, .i a1.High), (45, .po 1 0), (46, .i a1.Low), (47, .i (IntKind.i64.wrap (0 - a1.Low))), (48, .po 3 0), (49, .po 3 1), (50, .po 3 1), (51, .po 3 (1 + (N + 1) * 1))]⟩ ?_
  refine WD_sqst (i := 0) (j := N + 1) (v := a1.High) (by omega) (by omega) x3 (by kernel_rfl) (by kernel_rfl) ?_
  have y3 := sq_self (o' := sqo (N + 2) (up2 m 0 (N + 1) a1.High)) x3
  refine WD_qs 2 ⟨58, [(2, .po 0 0), (3, .po 1 0), (4, .po 2 0), (8, .po 5 0), (35, .po 3 0), (36, .po 0 0), (37, .i (N : Int)), (38, .i (addI .i64 (N : Int) 1)), (39, .po 3 0), (40, .po 0 0), (41, .i (N : Int)), (42, .i (addI .i64 (N : Int) 1)), (43, .po 1 1), (44, .i a1.High), (45, .po 1 0), (46, .i a1.Low), (47, .i (IntKind.i64.wrap (0 - a1.Low))), (48, .po 3 0), (49, .po 3 1), (50, .po 3 1), (51, .po 3 (1 + (N + 1) * 1)), (52, .po 3 0), (53, .po 3 1)]⟩ [{}, {}] ?_
  refine WD_iaA (o := 1) (id := 3) (i := N + 1) (by omega) ?_ (hix := by rw [← addI_nat (k := N) (by omega)]; kernel_rfl)
  refine WD_at ⟨58, [(2, .po 0 0), (3, .po 1 0), (4, .po 2 0), (8, .po 5 0), (35, .po 3 0), (36, .po 0 0), (37, .i (N : Int)), (38, .i (addI .i64 (N : Int) 1)), (39, .po 3 0), (40, .po 0 0), (41, .i (N : Int)), (42, .i (addI .i64 (N : Int) 1)), (43, .po 1 1), (44, .i a1.High), (45, .po 1 0), (46, .i a1.Low), (47, .i (IntKind.i64.wrap (0 - a1.Low))), (48, .po 3 0), (49, .po 3 1), (50, .po 3 1), (51, .po 3 (1 + (N + 1) * 1)), (52, .po 3 0), (53, .po 3 1), (54, .po 3 (1 + (N + 1) * 13))]⟩ ?_
  refine WD_iaA (o := 1 + (N + 1) * 13) (id := 3) (i := 0) (by omega) ?_
  refine WD_at ⟨58, [(2, .po 0 0), (3, .po 1 0), (4, .po 2 0), (8, .po 5 0), (35, .po 3 0), (36, .po 0 0), (37, .i (N : Int)), (38, .i (addI .i64 (N : Int) 1)), (39, .po 3 0), (40, .po 0 0), (41, .i (N : Int)), (42, .i (addI .i64 (N : Int) 1)), (43, .po 1 1), (44, .i a1.High), (45, .po 1 0), (46, .i a1.Low), (47, .i (IntKind.i64.wrap (0 - a1.Low))), (48, .po 3 0), (49, .po 3 1), (50, .po 3 1), (51, .po 3 (1 + (N + 1) * 1)), (52, .po 3 0), (53, .po 3 1), (54, .po 3 (1 + (N + 1) * 13)), (55, .po 3 (1 + (N + 1) * 13 + 0 * 1))]⟩ ?_
  refine WD_sqst (i := N + 1) (j := 0) (v := IntKind.i64.wrap (0 - a1.Low)) (by omega) (by omega) y3 (by kernel_rfl) (by kernel_rfl) ?_
  refine WD_nil ⟨by kernel_rfl, ?_⟩
  have z3 := sq_self (o' := sqo (N + 2) (up2 (up2 m 0 (N + 1) a1.High) (N + 1) 0 (IntKind.i64.wrap (0 - a1.Low)))) y3
  have z2 := get_ne (o' := sqo (N + 2) (up2 (up2 m 0 (N + 1) a1.High) (N + 1) 0 (IntKind.i64.wrap (0 - a1.Low)))) (get_ne (o' := sqo (N + 2) (up2 m 0 (N + 1) a1.High)) x2 (show 2 ≠ 3 by omega)) (show 2 ≠ 3 by omega)
  have z5 := get_ne (o' := sqo (N + 2) (up2 (up2 m 0 (N + 1) a1.High) (N + 1) 0 (IntKind.i64.wrap (0 - a1.Low)))) (get_ne (o' := sqo (N + 2) (up2 m 0 (N + 1) a1.High)) x5 (show 5 ≠ 3 by omega)) (show 5 ≠ 3 by omega)
  refine Gh_e ⟨⟨58, [(4, .po 2 0), (8, .po 5 0)]⟩, (H2.set 3 (sqo (N + 2) (up2 m 0 (N + 1) a1.High))).set 3 (sqo (N + 2) (up2 (up2 m 0 (N + 1) a1.High) (N + 1) 0 (IntKind.i64.wrap (0 - a1.Low))))⟩ ?_
  generalize (H2.set 3 (sqo (N + 2) (up2 m 0 (N + 1) a1.High))).set 3 (sqo (N + 2) (up2 (up2 m 0 (N + 1) a1.High) (N + 1) 0 (IntKind.i64.wrap (0 - a1.Low)))) = H3 at z3 z2 z5 ⊢
  have hl3 := get_lt z5
  refine W_seq ?_
  refine W_gh ?_
  refine W_reg ?_
  refine O_ldb (o := 0) z5 (by kernel_rfl) rfl ?_
  refine O_wc (xs := [.po 3 0]) (by kernel_rfl) (by kernel_rfl) ?_
  refine bounds_eq (n := N + 2) (by omega) (by omega) z3 (fun b rid H4 hnb hf4 => ?_)
  replace hf4 : Fr H3.length H3 H4 := hf4
  replace hnb : NB H3.length H4 b (N + 2) (up2 (up2 m 0 (N + 1) a1.High) (N + 1) 0 (IntKind.i64.wrap (0 - a1.Low))) rid := hnb
  have w4 : H4[2]? = some (.lv 2 [.i 0, .ro []]) := (hf4 2 (by omega)).trans z2
  refine O_st (o := 0) (sz := 2) (cs := [.i 0, .ro []]) (id := 2) [.i ((N + 2 - 1 : Nat) : Int), .own b (N + 2) 0 (N + 2)] [.i ((N + 2 - 1 : Nat) : Int), .own b (N + 2) 0 (N + 2)] w4 ?_
  refine O_q 1 ?_
  refine O_nil ?_
  refine Gh_e ⟨⟨58, [(4, .po 2 0), (5, .i 0)]⟩, H4.set 2 (.lv 2 [.i ((N + 2 - 1 : Nat) : Int), .own b (N + 2) 0 (N + 2)])⟩ ?_
  refine W_ret ?_
  have hmat : growL a0.Most (N + 1) a1.Low a1.High = matL (N + 2) (up2 (up2 m 0 (N + 1) a1.High) (N + 1) 0 (IntKind.i64.wrap (0 - a1.Low))) := matL_congr (fun a b ha hb => by
    rw [hlo]
    by_cases e1 : a < N + 1 ∧ b < N + 1
    · rw [if_pos e1, up2_ne (by omega), up2_ne (by omega), x7 a b ha hb, if_pos ⟨e1.1, e1.2, by omega⟩]
    rw [if_neg e1]
    by_cases e2 : a = 0 ∧ b = N + 1
    · rw [if_pos e2, up2_ne (by omega)]; obtain ⟨rfl, rfl⟩ := e2; rw [up2_eq]
    rw [if_neg e2]
    by_cases e3 : a = N + 1 ∧ b = 0
    · rw [if_pos e3]; obtain ⟨rfl, rfl⟩ := e3; rw [up2_eq]
    rw [if_neg e3, up2_ne e3, up2_ne e2, x7 a b ha hb, if_neg (fun g => e1 ⟨g.1, g.2.1⟩)])
  exact Fin_pk (l := [.agg [.i ((N + 2 - 1 : Nat) : Int), .own b (N + 2) 0 (N + 2)], .i 0]) (res_box rfl (sq_self w4) rfl rfl) (pk_tup (mapO_cons (pk_agg (box2 (N := N + 1) hmat (hnb.set (by omega)))) rfl))
end G11

namespace G11
open Go hiding Obj mark
open Go.Pl Go.Am Go.Am.As
set_option linter.unusedVariables false
set_option maxHeartbeats 1000000

end G11

namespace G11
open Go hiding Obj mark
open Go.Pl Go.Am Go.Am.As
set_option linter.unusedVariables false
set_option maxHeartbeats 1000000

theorem ncbox {L b N : Nat} {m : Nat → Nat → Int} {rid : Nat → Nat} {H : List Obj} {ft fr : Fl} {l : List (List Int)} (hl : l = matL (N + 1) m) (h : NC L H b (N + 1) m rid ft fr) {d : Nat} :
    mapO (pk (d + 2) H) [.i (N : Int), .own b (N + 1) 0 (N + 1)] = some [.i (N : Int), .ro (l.map (cL cI_i64))] := by
  subst hl
  exact mapO_cons (pk_free rfl) (mapO_cons h.pk rfl)

theorem p34 (a0 : Int) (r : SBounds × Int) (h : m34 a0 = some r) : Pt E0 hp 34 [.i a0] (.tup [.agg [.i r.1.N, .ro (r.1.Most.map (cL cI_i64))], .i r.2]) := by
  unfold m34 at h
  refine Pt_W fn34 rfl (by decide) ?_
  refine W_seq ?_
  refine W_gh ?_
  refine W_reg ?_
  refine O_p 2 ?_
  refine O_nil ?_
  refine Gh_e ⟨⟨13, [(0, .i a0), (2, .po 0 0)]⟩, [.lv 2 [.i 0, .ro []]]⟩ ?_
  refine W_seq ?_
  refine W_seq ?_
  refine W_cut ⟨⟨13, [(0, .i a0), (2, .po 0 0), (9, .bool (decide (a0 < 0) || decide (a0 > 12)))]⟩, [.lv 2 [.i 0, .ro []]]⟩ ?_ ?_
  · generalize e_g1 : (decide (a0 < 0) || decide (a0 > 12)) = g1
    refine W_gh ?_
    refine W_reg ?_
    refine O_p 3 ?_
    refine O_fork (n := 6) (decide (a0 < 0)) (by kernel_rfl) (fun c2 => ?_) (fun c2 => ?_)
    · refine O_p 3 ?_
      refine O_nil ?_
      refine Gh_e ⟨⟨13, [(0, .i a0), (2, .po 0 0), (9, .bool true)]⟩, [.lv 2 [.i 0, .ro []]]⟩ ?_
      have q := e_g1; simp only [c2, Bool.true_or] at q; subst q
      show _ = _
      kernel_rfl
    · refine O_p 3 ?_
      refine O_nil ?_
      refine Gh_e ⟨⟨13, [(0, .i a0), (2, .po 0 0), (9, .bool (decide (a0 > 12)))]⟩, [.lv 2 [.i 0, .ro []]]⟩ ?_
      have q := e_g1; simp only [c2, Bool.false_or] at q; subst q
      show _ = _
      kernel_rfl
  refine W_gh ?_
  refine W_cond (c := (decide (a0 < 0) || decide (a0 > 12))) (by kernel_rfl) (fun c3 => ?_) (fun c3 => ?_)
  · replace h := fork_t c3 h
    refine W_seq ?_
    refine W_gh ?_
    refine W_reg ?_
    refine O_p 3 ?_
    refine O_nil ?_
    refine Gh_e ⟨⟨13, [(0, .i a0), (2, .po 0 0), (3, .i 2), (9, .bool (decide (a0 < 0) || decide (a0 > 12)))]⟩, [.lv 2 [.i 0, .ro []]]⟩ ?_
    refine W_ret ?_
    replace h := Option.some.inj h; subst h
    exact Fin_free (l := [.agg [.i 0, .ro []], .i 2]) (by kernel_rfl) (by kernel_rfl) rfl
  replace h := fork_f c3 h
  simp only [Bool.or_eq_false_iff, decide_eq_false_iff_not] at c3
  refine W_skip ?_
  refine Gh_e ⟨⟨13, [(0, .i a0), (2, .po 0 0)]⟩, [.lv 2 [.i 0, .ro []]]⟩ ?_
  obtain ⟨M, rfl⟩ : ∃ M : Nat, a0 = (M : Int) := ⟨a0.toNat, by omega⟩
  refine W_seq ?_
  refine W_gh ?_
  refine W_reg ?_
  refine O_q 1 ?_
  refine O_wc (xs := [.i (M : Int)]) (by kernel_rfl) (by kernel_rfl) ?_
  refine free_eq2 (by omega) (fun b rid H4 hnc hf => ?_)
  replace hf : Fr 1 [.lv 2 [.i 0, .ro []]] H4 := hf
  replace hnc : NC 1 H4 b (M + 1) freeM rid .nil .nil := hnc
  have g2 : H4[0]? = some (.lv 2 [.i 0, .ro []]) := hf 0 (by omega)
  refine O_st (o := 0) (sz := 2) (cs := [.i 0, .ro []]) (id := 0) [.i (M : Int), .own b (M + 1) 0 (M + 1)] [.i (M : Int), .own b (M + 1) 0 (M + 1)] g2 ?_
  refine O_q 1 ?_
  refine O_nil ?_
  refine Gh_e ⟨⟨13, [(2, .po 0 0), (3, .i 0)]⟩, H4.set 0 (.lv 2 [.i (M : Int), .own b (M + 1) 0 (M + 1)])⟩ ?_
  refine W_ret ?_
  have hh := Option.some.inj h
  rw [show ((M : Int) + 1).toNat = M + 1 by omega] at hh
  subst hh
  exact Fin_pk (l := [.agg [.i (M : Int), .own b (M + 1) 0 (M + 1)], .i 0]) (res_box rfl (sq_self g2) rfl rfl) (pk_tup (mapO_cons (pk_agg (ncbox rfl (hnc.set (by omega)))) rfl))

/-- the lesser bound -/
def lesE (x y : Int) : Int := if x ≠ -1099511627776 ∧ (y = -1099511627776 ∨ x < y) then x else y
theorem m82_eq (x y : Int) : m82 x y = some (lesE x y) := by
  unfold m82 m84 lesE
  simp only [Option.bind_some]
  by_cases h : x ≠ -1099511627776 ∧ (y = -1099511627776 ∨ x < y)
  · rw [if_pos h, show (x != -1099511627776 && (y == -1099511627776 || decide (x < y))) = true by simpa using h]; rfl
  · rw [if_neg h, show (x != -1099511627776 && (y == -1099511627776 || decide (x < y))) = false by
      cases e : (x != -1099511627776 && (y == -1099511627776 || decide (x < y)))
      · rfl
      · exact (h (by simpa using e)).elim]; rfl

/-- right bounds with one more -/
theorem p72 {N i j : Nat} {v : Int} {l r : List (List Int)} (hrt : Rt N l) (hi : i < N + 1) (hj : j < N + 1) (hr : r = matL (N + 1) (up2 (ent l) i j (lesE (ent l i j) v))) :
    Pt E0 hp 72 [.agg [.i (N : Int), .ro (l.map (cL cI_i64))], .i (i : Int), .i (j : Int), .i v] (.agg [.i (N : Int), .ro (r.map (cL cI_i64))]) := by
  have hN7 := hrt.hN
  refine Pt_W fn72 rfl (by decide) ?_
  refine W_seq ?_
  refine W_gh ?_
  refine W_reg ?_
  refine O_p 2 ?_
  refine O_nil ?_
  refine Gh_e ⟨⟨30, [(1, .i (i : Int)), (2, .i (j : Int)), (3, .i v), (4, .po 0 0), (8, .po 1 0)]⟩, [.lv 2 [.i (N : Int), .ro (l.map (cL cI_i64))], .lv 2 [.i 0, .ro []]]⟩ ?_
  refine W_seq ?_
  refine W_gh ?_
  refine W_reg ?_
  refine O_p 1 ?_
  refine O_wc (xs := [.agg [.i (N : Int), .ro (l.map (cL cI_i64))]]) (by kernel_rfl) (by kernel_rfl) ?_
  refine copied_eq (m := ent l) (by omega) (.inl (by rw [← matL_row hrt.sq])) (fun b rid H1 hnc hf => ?_)
  replace hf : Fr 2 [.lv 2 [.i (N : Int), .ro (l.map (cL cI_i64))], .lv 2 [.i 0, .ro []]] H1 := hf
  replace hnc : NC 2 H1 b (N + 1) (ent l) rid .nil .norm := hnc
  have hA4 : 2 ≤ H1.length := by
    have x1 := get_lt hnc.top
    have x2 := hnc.lb
    omega
  refine O_alloc (sz := 2) H1.length (H1 ++ [.lv 2 [.i 0, .nils]]) rfl ?_
  refine O_st (o := 0) (sz := 2) (cs := [.i 0, .nils]) (id := H1.length) [.i (N : Int), .own b (N + 1) 0 (N + 1)] [.i (N : Int), .own b (N + 1) 0 (N + 1)] get_last ?_
  refine O_nil ?_
  rw [show (H1 ++ [Obj.lv 2 [.i 0, .nils]]).set H1.length (.lv 2 [.i (N : Int), .own b (N + 1) 0 (N + 1)]) = H1 ++ [.lv 2 [.i (N : Int), .own b (N + 1) 0 (N + 1)]] by simp]
  refine Gh_one (s1 := ⟨⟨30, [(1, .i (i : Int)), (2, .i (j : Int)), (3, .i v), (8, .po 1 0), (9, .po H1.length 0)]⟩, H1 ++ [.lv 2 [.i (N : Int), .own b (N + 1) 0 (N + 1)]]⟩) (by kernel_rfl) ?_
  refine Gh_wkp (id := H1.length) (cs' := [.i (N : Int), .own b (N + 1) 0 (N + 1)]) get_last rfl rfl rfl ?_
  refine Gh_nil ?_
  show W E0 hp _ _ _ _ _ ⟨_, (H1 ++ [Obj.lv 2 [.i (N : Int), .own b (N + 1) 0 (N + 1)]]).set H1.length (.lv 2 [.i (N : Int), .own b (N + 1) 0 (N + 1)])⟩
  rw [show (H1 ++ [Obj.lv 2 [.i (N : Int), .own b (N + 1) 0 (N + 1)]]).set H1.length (.lv 2 [.i (N : Int), .own b (N + 1) 0 (N + 1)]) = H1 ++ [.lv 2 [.i (N : Int), .own b (N + 1) 0 (N + 1)]] by simp]
  have t1 : (H1 ++ [Obj.lv 2 [.i (N : Int), .own b (N + 1) 0 (N + 1)]])[1]? = some (.lv 2 [.i 0, .ro []]) := get_app (hf 1 (by omega))
  have t2 : (H1 ++ [Obj.lv 2 [.i (N : Int), .own b (N + 1) 0 (N + 1)]])[H1.length]? = some (.lv 2 [.i (N : Int), .own b (N + 1) 0 (N + 1)]) := get_last
  have t3 : NC 2 (H1 ++ [Obj.lv 2 [.i (N : Int), .own b (N + 1) 0 (N + 1)]]) b (N + 1) (ent l) rid .nil .norm := hnc.ext Fr.app
  generalize H1 ++ [Obj.lv 2 [.i (N : Int), .own b (N + 1) 0 (N + 1)]] = H2 at t1 t2 t3 ⊢
  generalize H1.length = A at t2 hA4 ⊢
  refine W_seq ?_
  refine W_gh ?_
  refine W_draw ?_
  refine O_q 1 ?_
  refine O_ldb (o := 1) t2 (by kernel_rfl) rfl ?_
  refine O_q 1 ?_
  refine O_owld (n := N + 1) (i := i) (v := .own (rid i) (N + 1) 0 (N + 1)) t3.top (by simp) (mr_get hi) ?_
  refine O_q 2 ?_
  refine O_ldb (o := 1) t2 (by kernel_rfl) rfl ?_
  refine O_q 1 ?_
  refine O_owld (n := N + 1) (i := i) (v := .own (rid i) (N + 1) 0 (N + 1)) t3.top (by simp) (mr_get hi) ?_
  refine O_q 1 ?_
  refine O_owld (n := N + 1) (i := j) (v := .i (ent l i j)) (t3.row i hi) fo_len (fo_get hj) ?_
  refine O_q 1 ?_
  refine O_pt (xs := [.i (ent l i j), .i v]) (by kernel_rfl) rfl rfl (p82 _ _ _ (m82_eq (ent l i j) v)) ?_
  refine O_owst (i := j) (v' := .i (lesE (ent l i j) v)) (t3.row i hi) fo_len (fo_get hj) rfl ?_
  have n1 := t3.put (v := lesE (ent l i j) v) hi hj
  have r0 := t3.lr i hi
  have hrA := ne_get t2 (t3.row i hi) (fun e => obj_ne1 e.symm)
  have y1 := get_ne (o' := .live .norm 1 (((rowL (N + 1) (ent l i)).map cI_i64).set j [.i (lesE (ent l i j) v)])) t1 (show 1 ≠ rid i by omega)
  have y2 := get_ne (o' := .live .norm 1 (((rowL (N + 1) (ent l i)).map cI_i64).set j [.i (lesE (ent l i j) v)])) t2 hrA
  generalize H2.set (rid i) (.live .norm 1 (((rowL (N + 1) (ent l i)).map cI_i64).set j [.i (lesE (ent l i j) v)])) = H3 at n1 y1 y2 ⊢
  refine O_nil ?_
  refine Gh_e ⟨⟨30, [(8, .po 1 0), (9, .po A 0)]⟩, H3⟩ ?_
  refine W_seq ?_
  refine W_gh ?_
  refine W_reg ?_
  refine O_lda y2 (by kernel_rfl) rfl ?_
  refine O_st (o := 0) (sz := 2) (cs := [.i 0, .ro []]) (id := 1) [.i (N : Int), .own b (N + 1) 0 (N + 1)] [.i (N : Int), .own b (N + 1) 0 (N + 1)] y1 ?_
  refine O_nil ?_
  refine Gh_e ⟨⟨30, [(8, .po 1 0)]⟩, H3.set 1 (.lv 2 [.i (N : Int), .own b (N + 1) 0 (N + 1)])⟩ ?_
  refine W_ret ?_
  exact Fin_pk (l := [.agg [.i (N : Int), .own b (N + 1) 0 (N + 1)]]) (res_box rfl (sq_self y1) rfl rfl) (pk_agg (ncbox hr (n1.set (by omega))))

theorem p36 (a0 : SBounds) (a1 a2 a3 : Int) (r : SBounds × Int) (h : m36 a0 a1 a2 a3 = some r) : Pt E0 hp 36 [.agg (cSBounds a0), .i a1, .i a2, .i a3] (.tup [.agg [.i r.1.N, .ro (r.1.Most.map (cL cI_i64))], .i r.2]) := by
  obtain ⟨c, e28, _, hR⟩ := check_eq0 a0
  unfold m36 at h
  rw [e28] at h
  simp only [Option.bind_some] at h
  refine Pt_W fn36 rfl (by decide) ?_
  refine W_seq ?_
  refine W_gh ?_
  refine W_reg ?_
  refine O_p 3 ?_
  refine O_nil ?_
  refine Gh_e ⟨⟨41, [(1, .i a1), (2, .i a2), (3, .i a3), (4, .po 0 0), (8, .po 1 0)]⟩, [.lv 2 (cSBounds a0), .lv 2 [.i 0, .ro []]]⟩ ?_
  refine W_seq ?_
  refine W_seq ?_
  refine W_gh ?_
  refine W_reg ?_
  refine O_p 1 ?_
  refine O_pt (xs := [.agg (cSBounds a0)]) (by kernel_rfl) (bels_cons (okSBounds.bel a0) rfl) rfl (p28 a0 c e28) ?_
  refine O_p 1 ?_
  refine O_nil ?_
  refine Gh_e ⟨⟨41, [(1, .i a1), (2, .i a2), (3, .i a3), (4, .po 0 0), (8, .po 1 0), (10, .i c)]⟩, [.lv 2 (cSBounds a0), .lv 2 [.i 0, .ro []]]⟩ ?_
  refine W_seq ?_
  refine W_gh ?_
  refine W_reg ?_
  refine O_p 2 ?_
  refine O_nil ?_
  refine Gh_e ⟨⟨41, [(1, .i a1), (2, .i a2), (3, .i a3), (4, .po 0 0), (8, .po 1 0), (10, .i c), (14, .bool (c != 0))]⟩, [.lv 2 (cSBounds a0), .lv 2 [.i 0, .ro []]]⟩ ?_
  refine W_gh ?_
  refine W_cond (c := (c != 0)) (by kernel_rfl) (fun hc => ?_) (fun hc => ?_)
  · replace h := fork_t hc h
    refine W_seq ?_
    refine W_gh ?_
    refine W_reg ?_
    refine O_p 4 ?_
    refine O_nil ?_
    refine Gh_e ⟨⟨41, [(1, .i a1), (2, .i a2), (3, .i a3), (4, .po 0 0), (8, .po 1 0), (9, .i c), (14, .bool (c != 0))]⟩, [.lv 2 (cSBounds a0), .lv 2 [.i 0, .ro []]]⟩ ?_
    refine W_ret ?_
    replace h := Option.some.inj h; subst h
    exact Fin_free (l := [.agg [.i 0, .ro []], .i c]) (by kernel_rfl) (by kernel_rfl) rfl
  replace h := fork_f hc h
  have hc0 : c = 0 := by simpa using hc
  refine W_skip ?_
  refine Gh_e ⟨⟨41, [(1, .i a1), (2, .i a2), (3, .i a3), (4, .po 0 0), (8, .po 1 0)]⟩, [.lv 2 (cSBounds a0), .lv 2 [.i 0, .ro []]]⟩ ?_
  have hg0 : (decide (a1 < 0) || decide (a1 > a0.N) || decide (a2 < 0) || decide (a2 > a0.N)) = (bif !(decide (a1 ≥ 0) && decide (a1 ≤ a0.N)) then true else !(decide (a2 ≥ 0) && decide (a2 ≤ a0.N))) := by
    have e : ∀ x : Int, (!(decide (x ≥ 0) && decide (x ≤ a0.N))) = (decide (x < 0) || decide (x > a0.N)) := fun x => by
      rw [Bool.eq_iff_iff]; simp
    rw [e, e, Bool.or_assoc]
    cases (decide (a1 < 0) || decide (a1 > a0.N)) <;> rfl
  rw [hg0] at h
  have e52 : ∀ x, m52 a0 x = some (decide (x ≥ 0) && decide (x ≤ a0.N)) := fun _ => rfl
  have e1 := e52 a1
  have e2 := e52 a2
  generalize hi1 : (decide (a1 ≥ 0) && decide (a1 ≤ a0.N)) = i1 at h e1
  generalize hi2 : (decide (a2 ≥ 0) && decide (a2 ≤ a0.N)) = i2 at h e2
  refine W_seq ?_
  refine W_seq ?_
  refine W_cut ⟨⟨41, [(1, .i a1), (2, .i a2), (3, .i a3), (4, .po 0 0), (8, .po 1 0), (26, .bool (bif !i1 then true else !i2))]⟩, [.lv 2 (cSBounds a0), .lv 2 [.i 0, .ro []]]⟩ ?_ ?_
  · refine W_gh ?_
    refine W_reg ?_
    refine O_p 2 ?_
    refine O_pt (xs := [.agg (cSBounds a0), .i a1]) (by kernel_rfl) (bels_cons (okSBounds.bel a0) rfl) rfl (p52 a0 a1 i1 e1) ?_
    refine O_p 2 ?_
    refine O_fork (n := 21) (!i1) (by kernel_rfl) (fun c2 => ?_) (fun c2 => ?_)
    · refine O_p 5 ?_
      refine O_nil ?_
      refine Gh_e ⟨⟨41, [(1, .i a1), (2, .i a2), (3, .i a3), (4, .po 0 0), (8, .po 1 0), (26, .bool true)]⟩, [.lv 2 (cSBounds a0), .lv 2 [.i 0, .ro []]]⟩ ?_
      rw [c2]; rfl
    · refine O_p 2 ?_
      refine O_pt (xs := [.agg (cSBounds a0), .i a2]) (by kernel_rfl) (bels_cons (okSBounds.bel a0) rfl) rfl (p52 a0 a2 i2 e2) ?_
      refine O_p 2 ?_
      refine O_nil ?_
      refine Gh_e ⟨⟨41, [(1, .i a1), (2, .i a2), (3, .i a3), (4, .po 0 0), (8, .po 1 0), (26, .bool (!i2))]⟩, [.lv 2 (cSBounds a0), .lv 2 [.i 0, .ro []]]⟩ ?_
      rw [c2]; rfl
  refine W_gh ?_
  refine W_cond (c := (bif !i1 then true else !i2)) (by kernel_rfl) (fun c3 => ?_) (fun c3 => ?_)
  · replace h := fork_t c3 h
    refine W_seq ?_
    refine W_gh ?_
    refine W_reg ?_
    refine O_p 3 ?_
    refine O_nil ?_
    refine Gh_e ⟨⟨41, [(1, .i a1), (2, .i a2), (3, .i a3), (4, .po 0 0), (8, .po 1 0), (9, .i 2), (26, .bool (bif !i1 then true else !i2))]⟩, [.lv 2 (cSBounds a0), .lv 2 [.i 0, .ro []]]⟩ ?_
    refine W_ret ?_
    replace h := Option.some.inj h; subst h
    exact Fin_free (l := [.agg [.i 0, .ro []], .i 2]) (by kernel_rfl) (by kernel_rfl) rfl
  replace h := fork_f c3 h
  have hi3 : i1 = true ∧ i2 = true := by cases i1 <;> cases i2 <;> simp_all
  refine W_skip ?_
  refine Gh_e ⟨⟨41, [(1, .i a1), (2, .i a2), (3, .i a3), (4, .po 0 0), (8, .po 1 0)]⟩, [.lv 2 (cSBounds a0), .lv 2 [.i 0, .ro []]]⟩ ?_
  refine W_seq ?_
  refine W_seq ?_
  refine W_gh ?_
  refine W_reg ?_
  refine O_p 3 ?_
  refine O_nil ?_
  refine Gh_e ⟨⟨41, [(1, .i a1), (2, .i a2), (3, .i a3), (4, .po 0 0), (8, .po 1 0), (30, .bool (a1 == a2))]⟩, [.lv 2 (cSBounds a0), .lv 2 [.i 0, .ro []]]⟩ ?_
  refine W_gh ?_
  refine W_cond (c := (a1 == a2)) (by kernel_rfl) (fun c4 => ?_) (fun c4 => ?_)
  · replace h := fork_t c4 h
    refine W_seq ?_
    refine W_gh ?_
    refine W_reg ?_
    refine O_p 3 ?_
    refine O_nil ?_
    refine Gh_e ⟨⟨41, [(1, .i a1), (2, .i a2), (3, .i a3), (4, .po 0 0), (8, .po 1 0), (9, .i 1), (30, .bool (a1 == a2))]⟩, [.lv 2 (cSBounds a0), .lv 2 [.i 0, .ro []]]⟩ ?_
    refine W_ret ?_
    replace h := Option.some.inj h; subst h
    exact Fin_free (l := [.agg [.i 0, .ro []], .i 1]) (by kernel_rfl) (by kernel_rfl) rfl
  replace h := fork_f c4 h
  have e65 : m65 a3 = some (decide (a3 ≥ (-64000000)) && decide (a3 ≤ 64000000)) := rfl
  generalize hIn : (decide (a3 ≥ (-64000000)) && decide (a3 ≤ 64000000)) = inn at h e65
  refine W_skip ?_
  refine Gh_e ⟨⟨41, [(1, .i a1), (2, .i a2), (3, .i a3), (4, .po 0 0), (8, .po 1 0)]⟩, [.lv 2 (cSBounds a0), .lv 2 [.i 0, .ro []]]⟩ ?_
  refine W_seq ?_
  refine W_seq ?_
  refine W_gh ?_
  refine W_reg ?_
  refine O_p 1 ?_
  refine O_pt (xs := [.i a3]) (by kernel_rfl) rfl rfl (p65 a3 inn e65) ?_
  refine O_p 1 ?_
  refine O_nil ?_
  refine Gh_e ⟨⟨41, [(1, .i a1), (2, .i a2), (3, .i a3), (4, .po 0 0), (8, .po 1 0), (34, .bool (!inn))]⟩, [.lv 2 (cSBounds a0), .lv 2 [.i 0, .ro []]]⟩ ?_
  refine W_gh ?_
  refine W_cond (c := (!inn)) (by kernel_rfl) (fun c5 => ?_) (fun c5 => ?_)
  · replace h := fork_t c5 h
    refine W_seq ?_
    refine W_gh ?_
    refine W_reg ?_
    refine O_p 3 ?_
    refine O_nil ?_
    refine Gh_e ⟨⟨41, [(1, .i a1), (2, .i a2), (3, .i a3), (4, .po 0 0), (8, .po 1 0), (9, .i 2), (34, .bool (!inn))]⟩, [.lv 2 (cSBounds a0), .lv 2 [.i 0, .ro []]]⟩ ?_
    refine W_ret ?_
    replace h := Option.some.inj h; subst h
    exact Fin_free (l := [.agg [.i 0, .ro []], .i 2]) (by kernel_rfl) (by kernel_rfl) rfl
  replace h := fork_f c5 h
  cases h6 : decide (a0.N > 6)
  case true => rw [h6, cond_true] at h; cases h
  rw [h6, cond_false] at h
  have h6' := of_decide_eq_false h6
  obtain ⟨N, hN, hrt⟩ := (hR hc0).rt h6'
  have hN7 := hrt.hN
  rw [hi3.1] at hi1
  rw [hi3.2] at hi2
  simp only [Bool.and_eq_true, decide_eq_true_eq] at hi1 hi2
  obtain ⟨i, rfl⟩ : ∃ i : Nat, a1 = (i : Int) := ⟨a1.toNat, by omega⟩
  obtain ⟨j, rfl⟩ : ∃ j : Nat, a2 = (j : Int) := ⟨a2.toNat, by omega⟩
  have hcs : cSBounds a0 = [.i (N : Int), .ro (a0.Most.map (cL cI_i64))] := by rw [cSB, hN]
  rw [hrt.sq.1, hN, Int.toNat_natCast, Int.toNat_natCast] at h
  replace h := Option.some.inj h; subst h
  have hv : a3 ≠ -1099511627776 := by
    have : inn = true := by simpa using c5
    rw [this] at hIn
    simp only [Bool.and_eq_true, decide_eq_true_eq] at hIn
    omega
  have hmat : addL a0.Most (N + 1) i j a3 = matL (N + 1) (up2 (ent a0.Most) i j (lesE (ent a0.Most i j) a3)) := matL_congr (fun a b ha hb => by
    by_cases e2 : a = i ∧ b = j
    · obtain ⟨rfl, rfl⟩ := e2
      rw [up2_eq]
      unfold lesE
      by_cases e : ent a0.Most a b = -1099511627776 ∨ a3 < ent a0.Most a b
      · rw [if_pos ⟨rfl, rfl, e⟩, if_neg (by omega)]
      · rw [if_neg (fun g => e g.2.2)]
        split <;> omega
    · rw [up2_ne e2, if_neg (fun g => e2 ⟨g.1, g.2.1⟩)])
  refine W_skip ?_
  refine Gh_e ⟨⟨41, [(1, .i (i : Int)), (2, .i (j : Int)), (3, .i a3), (4, .po 0 0), (8, .po 1 0)]⟩, [.lv 2 (cSBounds a0), .lv 2 [.i 0, .ro []]]⟩ ?_
  refine W_seq ?_
  refine W_gh ?_
  refine W_reg ?_
  refine O_p 4 ?_
  refine O_pt (xs := [.agg [.i (N : Int), .ro (a0.Most.map (cL cI_i64))], .i (i : Int), .i (j : Int), .i a3]) (by rw [← hN]; kernel_rfl) (bels_cons (okSBounds.bel ⟨(N : Int), a0.Most⟩) rfl) rfl (p72 hrt (by omega) (by omega) hmat) ?_
  refine O_p 2 ?_
  refine O_nil ?_
  refine Gh_e ⟨⟨41, [(8, .po 1 0), (9, .i 0)]⟩, [.lv 2 (cSBounds a0), .lv 2 [.i (N : Int), .ro ((addL a0.Most (N + 1) i j a3).map (cL cI_i64))]]⟩ ?_
  refine W_ret ?_
  exact Fin_free (l := [.agg [.i (N : Int), .ro ((addL a0.Most (N + 1) i j a3).map (cL cI_i64))], .i 0]) (by kernel_rfl) rfl (show AV.bels 0 [.agg (cSBounds ⟨(N : Int), addL a0.Most (N + 1) i j a3⟩), .i 0] = true from bels_cons (okSBounds.bel ⟨(N : Int), addL a0.Most (N + 1) i j a3⟩) rfl)
end G11

namespace G11
open Go hiding Obj mark
open Go.Pl Go.Am Go.Am.As
set_option linter.unusedVariables false
set_option maxHeartbeats 1000000

/-- right bounds with one more time -/
theorem p76 {N : Nat} {lo hgh : Int} {l r : List (List Int)} (hrt : Rt N l) (hlo : IntKind.i64.wrap (0 - lo) = -lo) (hr : r = growL l (N + 1) lo hgh) :
    Pt E0 hp 76 [.agg [.i (N : Int), .ro (l.map (cL cI_i64))], .agg [.i lo, .i hgh]] (.agg [.i ((N + 1 : Nat) : Int), .ro (r.map (cL cI_i64))]) := by
  have hN7 := hrt.hN
  refine Pt_W fn76 rfl (by decide) ?_
  refine W_seq ?_
  refine W_gh ?_
  refine W_reg ?_
  refine O_p 3 ?_
  refine O_nil ?_
  refine Gh_e ⟨⟨61, [(2, .po 0 0), (3, .po 1 0), (4, .po 2 0)]⟩, [.lv 2 [.i (N : Int), .ro (l.map (cL cI_i64))], .lv 2 [.i lo, .i hgh], .lv 2 [.i 0, .ro []]]⟩ ?_
  refine W_seq ?_
  refine W_gh ?_
  refine W_reg ?_
  refine O_p 3 ?_
  refine O_wc (xs := [.i ((N + 1 : Nat) : Int)]) (by kernel_rfl) (by rw [← addI_nat (k := N) (by omega)]; kernel_rfl) ?_
  refine free_eq2 (by omega) (fun b rid H1 hnc hf => ?_)
  replace hf : Fr 3 [.lv 2 [.i (N : Int), .ro (l.map (cL cI_i64))], .lv 2 [.i lo, .i hgh], .lv 2 [.i 0, .ro []]] H1 := hf
  replace hnc : NC 3 H1 b (N + 2) freeM rid .nil .nil := hnc
  have hA4 : 3 ≤ H1.length := by
    have x1 := get_lt hnc.top
    have x2 := hnc.lb
    omega
  refine O_alloc (sz := 2) H1.length (H1 ++ [.lv 2 [.i 0, .nils]]) rfl ?_
  refine O_st (o := 0) (sz := 2) (cs := [.i 0, .nils]) (id := H1.length) [.i ((N + 1 : Nat) : Int), .own b (N + 2) 0 (N + 2)] [.i ((N + 1 : Nat) : Int), .own b (N + 2) 0 (N + 2)] get_last ?_
  refine O_nil ?_
  rw [show (H1 ++ [Obj.lv 2 [.i 0, .nils]]).set H1.length (.lv 2 [.i ((N + 1 : Nat) : Int), .own b (N + 2) 0 (N + 2)]) = H1 ++ [.lv 2 [.i ((N + 1 : Nat) : Int), .own b (N + 2) 0 (N + 2)]] by simp]
  refine Gh_one (s1 := ⟨⟨61, [(2, .po 0 0), (3, .po 1 0), (4, .po 2 0), (5, .po H1.length 0)]⟩, H1 ++ [.lv 2 [.i ((N + 1 : Nat) : Int), .own b (N + 2) 0 (N + 2)]]⟩) (by kernel_rfl) ?_
  refine Gh_wkp (id := H1.length) (cs' := [.i ((N + 1 : Nat) : Int), .own b (N + 2) 0 (N + 2)]) get_last rfl rfl rfl ?_
  refine Gh_nil ?_
  show W E0 hp _ _ _ _ _ ⟨_, (H1 ++ [Obj.lv 2 [.i ((N + 1 : Nat) : Int), .own b (N + 2) 0 (N + 2)]]).set H1.length (.lv 2 [.i ((N + 1 : Nat) : Int), .own b (N + 2) 0 (N + 2)])⟩
  rw [show (H1 ++ [Obj.lv 2 [.i ((N + 1 : Nat) : Int), .own b (N + 2) 0 (N + 2)]]).set H1.length (.lv 2 [.i ((N + 1 : Nat) : Int), .own b (N + 2) 0 (N + 2)]) = H1 ++ [.lv 2 [.i ((N + 1 : Nat) : Int), .own b (N + 2) 0 (N + 2)]] by simp]
  have t0 : (H1 ++ [Obj.lv 2 [.i ((N + 1 : Nat) : Int), .own b (N + 2) 0 (N + 2)]])[0]? = some (.lv 2 [.i (N : Int), .ro (l.map (cL cI_i64))]) := get_app (hf 0 (by omega))
  have t1 : (H1 ++ [Obj.lv 2 [.i ((N + 1 : Nat) : Int), .own b (N + 2) 0 (N + 2)]])[1]? = some (.lv 2 [.i lo, .i hgh]) := get_app (hf 1 (by omega))
  have t2 : (H1 ++ [Obj.lv 2 [.i ((N + 1 : Nat) : Int), .own b (N + 2) 0 (N + 2)]])[2]? = some (.lv 2 [.i 0, .ro []]) := get_app (hf 2 (by omega))
  have tA : (H1 ++ [Obj.lv 2 [.i ((N + 1 : Nat) : Int), .own b (N + 2) 0 (N + 2)]])[H1.length]? = some (.lv 2 [.i ((N + 1 : Nat) : Int), .own b (N + 2) 0 (N + 2)]) := get_last
  have t3 : NC 3 (H1 ++ [Obj.lv 2 [.i ((N + 1 : Nat) : Int), .own b (N + 2) 0 (N + 2)]]) b (N + 2) freeM rid .nil .nil := hnc.ext Fr.app
  generalize H1 ++ [Obj.lv 2 [.i ((N + 1 : Nat) : Int), .own b (N + 2) 0 (N + 2)]] = H2 at t0 t1 t2 tA t3 ⊢
  generalize H1.length = A at tA hA4 ⊢
  refine W_seq ?_
  refine W_seq ?_
  refine W_reg ?_
  refine O_q 1 ?_
  refine O_nil ?_
  refine W_gh (W_block ?_)
  refine W_lp (fun s' => ∃ (i : Nat) (H3 : List Obj), s' = ⟨⟨61, [(2, .po 0 0), (3, .po 1 0), (4, .po 2 0), (5, .po A 0), (6, .i (i : Int))]⟩, H3⟩ ∧ i ≤ N + 1 ∧ (H3[0]? = some (.lv 2 [.i (N : Int), .ro (l.map (cL cI_i64))]) ∧ H3[1]? = some (.lv 2 [.i lo, .i hgh]) ∧ H3[2]? = some (.lv 2 [.i 0, .ro []]) ∧ H3[A]? = some (.lv 2 [.i ((N + 1 : Nat) : Int), .own b (N + 2) 0 (N + 2)]) ∧ ∃ m', NC 3 H3 b (N + 2) m' rid .nil .nil ∧ ∀ x y, x < N + 2 → y < N + 2 → m' x y = if x < N + 1 ∧ y < N + 1 ∧ (x < i ∨ x = i ∧ y < 0) then ent l x y else freeM x y))
    (fun s' => match s'.tmps.get 6 with | .int _ k => N + 1 - k.toNat | _ => 0) ⟨0, H2, rfl, by omega, t0, t1, t2, tA, freeM, t3, fun x y hx hy => by rw [if_neg (by omega)]⟩ ?_
  rintro s' ⟨i, H3, rfl, hi, hI⟩
  refine W_gh ?_
  refine W_seq ?_
  refine W_seq ?_
  refine W_gh ?_
  refine W_reg ?_
  refine O_q 2 ?_
  refine O_ldb (o := 0) (hI.1) (by kernel_rfl) rfl ?_
  refine O_q 1 ?_
  refine O_nil ?_
  refine Gh_e ⟨⟨61, [(2, .po 0 0), (3, .po 1 0), (4, .po 2 0), (5, .po A 0), (6, .i (i : Int)), (15, .bool (decide ((i : Int) ≤ (N : Int))))]⟩, H3⟩ ?_
  refine W_gh ?_
  refine W_cond (c := decide ((i : Int) ≤ (N : Int))) (by kernel_rfl) (fun c => ?_) (fun c => ?_)
  · have c3 : i < N + 1 := by have := of_decide_eq_true c; omega
    refine W_skip ?_
    refine Gh_e ⟨⟨61, [(2, .po 0 0), (3, .po 1 0), (4, .po 2 0), (5, .po A 0), (6, .i (i : Int))]⟩, H3⟩ ?_
    refine W_seq ?_
    refine W_gh ?_
    refine W_block ?_
    refine W_seq ?_
    refine W_reg ?_
    refine O_q 1 ?_
    refine O_nil ?_
    refine W_gh (W_block ?_)
    refine W_lp (fun s' => ∃ (j : Nat) (H3 : List Obj), s' = ⟨⟨61, [(2, .po 0 0), (3, .po 1 0), (4, .po 2 0), (5, .po A 0), (6, .i (i : Int)), (7, .i (j : Int))]⟩, H3⟩ ∧ j ≤ N + 1 ∧ (H3[0]? = some (.lv 2 [.i (N : Int), .ro (l.map (cL cI_i64))]) ∧ H3[1]? = some (.lv 2 [.i lo, .i hgh]) ∧ H3[2]? = some (.lv 2 [.i 0, .ro []]) ∧ H3[A]? = some (.lv 2 [.i ((N + 1 : Nat) : Int), .own b (N + 2) 0 (N + 2)]) ∧ ∃ m', NC 3 H3 b (N + 2) m' rid .nil .nil ∧ ∀ x y, x < N + 2 → y < N + 2 → m' x y = if x < N + 1 ∧ y < N + 1 ∧ (x < i ∨ x = i ∧ y < j) then ent l x y else freeM x y))
      (fun s' => match s'.tmps.get 7 with | .int _ k => N + 1 - k.toNat | _ => 0) ⟨0, H3, rfl, by omega, hI⟩ ?_
    clear hI
    rintro s' ⟨j, H3, rfl, hj, hI⟩
    refine W_gh ?_
    refine W_seq ?_
    refine W_seq ?_
    refine W_gh ?_
    refine W_reg ?_
    refine O_q 2 ?_
    refine O_ldb (o := 0) (hI.1) (by kernel_rfl) rfl ?_
    refine O_q 1 ?_
    refine O_nil ?_
    refine Gh_e ⟨⟨61, [(2, .po 0 0), (3, .po 1 0), (4, .po 2 0), (5, .po A 0), (6, .i (i : Int)), (7, .i (j : Int)), (21, .bool (decide ((j : Int) ≤ (N : Int))))]⟩, H3⟩ ?_
    refine W_gh ?_
    refine W_cond (c := decide ((j : Int) ≤ (N : Int))) (by kernel_rfl) (fun c => ?_) (fun c => ?_)
    · have c4 : j < N + 1 := by have := of_decide_eq_true c; omega
      refine W_skip ?_
      refine Gh_e ⟨⟨61, [(2, .po 0 0), (3, .po 1 0), (4, .po 2 0), (5, .po A 0), (6, .i (i : Int)), (7, .i (j : Int))]⟩, H3⟩ ?_
      refine W_seq ?_
      obtain ⟨u0, u1, u2, uA, m', u3, u4⟩ := hI
      refine W_block ?_
      refine W_gh ?_
      refine W_draw ?_
      refine O_q 1 ?_
      refine O_ldb (o := 1) uA (by kernel_rfl) rfl ?_
      refine O_q 1 ?_
      refine O_owld (n := N + 2) (i := i) (v := .own (rid i) (N + 2) 0 (N + 2)) u3.top (by simp) (mr_get (by omega)) ?_
      refine O_q 2 ?_
      refine O_ldb (o := 1) u0 (by kernel_rfl) rfl ?_
      refine O_q 1 ?_
      refine O_rold (i := i) (by kernel_rfl) (hrt.sq.row c3) ?_
      refine O_q 1 ?_
      refine O_rold (i := j) (by kernel_rfl) (hrt.sq.el c3 c4) ?_
      refine O_owst (n := N + 2) (i := j) (v' := .i (ent l i j)) (u3.row i (by omega)) fo_len (fo_get (by omega)) rfl ?_
      have n1 := u3.put (v := ent l i j) (show i < N + 2 by omega) (show j < N + 2 by omega)
      have r0 := u3.lr i (by omega)
      have hrA := ne_get uA (u3.row i (by omega)) (fun e => obj_ne1 e.symm)
      have y0 := get_ne (o' := (.live .nil 1 (((rowL (N + 2) (m' i)).map cI_i64).set j [.i (ent l i j)]))) u0 (show 0 ≠ rid i by omega)
      have y1 := get_ne (o' := (.live .nil 1 (((rowL (N + 2) (m' i)).map cI_i64).set j [.i (ent l i j)]))) u1 (show 1 ≠ rid i by omega)
      have y2 := get_ne (o' := (.live .nil 1 (((rowL (N + 2) (m' i)).map cI_i64).set j [.i (ent l i j)]))) u2 (show 2 ≠ rid i by omega)
      have yA := get_ne (o' := (.live .nil 1 (((rowL (N + 2) (m' i)).map cI_i64).set j [.i (ent l i j)]))) uA hrA
      generalize H3.set (rid i) (.live .nil 1 (((rowL (N + 2) (m' i)).map cI_i64).set j [.i (ent l i j)])) = H4 at n1 y0 y1 y2 yA ⊢
      refine O_nil ?_
      refine Gh_e ⟨⟨61, [(2, .po 0 0), (3, .po 1 0), (4, .po 2 0), (5, .po A 0), (6, .i (i : Int)), (7, .i (j : Int))]⟩, H4⟩ ?_
      have hI' : (H4[0]? = some (.lv 2 [.i (N : Int), .ro (l.map (cL cI_i64))]) ∧ H4[1]? = some (.lv 2 [.i lo, .i hgh]) ∧ H4[2]? = some (.lv 2 [.i 0, .ro []]) ∧ H4[A]? = some (.lv 2 [.i ((N + 1 : Nat) : Int), .own b (N + 2) 0 (N + 2)]) ∧ ∃ m', NC 3 H4 b (N + 2) m' rid .nil .nil ∧ ∀ x y, x < N + 2 → y < N + 2 → m' x y = if x < N + 1 ∧ y < N + 1 ∧ (x < i ∨ x = i ∧ y < (j + 1)) then ent l x y else freeM x y) := ⟨y0, y1, y2, yA, _, n1, fun x y hx hy => by
        by_cases e2 : x = i ∧ y = j
        · obtain ⟨rfl, rfl⟩ := e2; rw [up2_eq, if_pos ⟨c3, c4, by omega⟩]
        · rw [up2_ne e2, u4 x y hx hy]
          by_cases e3 : x < N + 1 ∧ y < N + 1 ∧ (x < i ∨ x = i ∧ y < j)
          · rw [if_pos e3, if_pos ⟨e3.1, e3.2.1, by omega⟩]
          · rw [if_neg e3, if_neg (fun g => e3 ⟨g.1, g.2.1, by omega⟩)]⟩
      refine W_gh ?_
      refine W_reg ?_
      refine O_q 3 ?_
      refine O_nil ?_
      refine Gh_e ⟨⟨61, [(2, .po 0 0), (3, .po 1 0), (4, .po 2 0), (5, .po A 0), (6, .i (i : Int)), (7, .i (addI .i64 (j : Int) 1))]⟩, H4⟩ ?_
      rw [addI_nat (k := j) (by omega)]
      refine Gh_e ⟨⟨61, [(2, .po 0 0), (3, .po 1 0), (4, .po 2 0), (5, .po A 0), (6, .i (i : Int)), (7, .i ((j + 1 : Nat) : Int))]⟩, H4⟩ ?_
      refine ⟨⟨j + 1, H4, rfl, by omega, hI'⟩, ?_⟩
      show N + 1 - (((j + 1 : Nat) : Int)).toNat < N + 1 - ((j : Int)).toNat
      omega
    · have c4 := of_decide_eq_false c
      obtain rfl : j = N + 1 := by omega
      refine W_exit ?_
      refine X_hit ?_
      refine Gh_e ⟨⟨61, [(2, .po 0 0), (3, .po 1 0), (4, .po 2 0), (5, .po A 0), (6, .i (i : Int))]⟩, H3⟩ ?_
      refine Gh_e ⟨⟨61, [(2, .po 0 0), (3, .po 1 0), (4, .po 2 0), (5, .po A 0), (6, .i (i : Int))]⟩, H3⟩ ?_
      refine W_gh ?_
      refine W_reg ?_
      refine O_q 3 ?_
      refine O_nil ?_
      refine Gh_e ⟨⟨61, [(2, .po 0 0), (3, .po 1 0), (4, .po 2 0), (5, .po A 0), (6, .i (addI .i64 (i : Int) 1))]⟩, H3⟩ ?_
      rw [addI_nat (k := i) (by omega)]
      refine Gh_e ⟨⟨61, [(2, .po 0 0), (3, .po 1 0), (4, .po 2 0), (5, .po A 0), (6, .i ((i + 1 : Nat) : Int))]⟩, H3⟩ ?_
      refine ⟨⟨i + 1, H3, rfl, by omega, (by obtain ⟨u0, u1, u2, uA, m', u3, u4⟩ := hI; exact ⟨u0, u1, u2, uA, m', u3, fun x y hx hy => (u4 x y hx hy).trans (ite_congr (propext (by omega)) (fun _ => rfl) (fun _ => rfl))⟩)⟩, ?_⟩
      show N + 1 - (((i + 1 : Nat) : Int)).toNat < N + 1 - ((i : Int)).toNat
      omega
  have c3 := of_decide_eq_false c
  obtain rfl : i = N + 1 := by omega
  refine W_exit ?_
  refine X_hit ?_
  obtain ⟨u0, u1, u2, uA, m', u3, u4⟩ := hI
  refine Gh_e ⟨⟨61, [(2, .po 0 0), (3, .po 1 0), (4, .po 2 0), (5, .po A 0)]⟩, H3⟩ ?_
  refine W_seq ?_
  refine W_gh ?_
  refine W_draw ?_
  refine O_q 1 ?_
  refine O_ldb (o := 1) uA (by kernel_rfl) rfl ?_
  refine O_owld (n := N + 2) (i := 0) (v := .own (rid 0) (N + 2) 0 (N + 2)) u3.top (by simp) (mr_get (by omega)) ?_
  refine O_q 1 ?_
  refine O_ldb (o := 0) u0 (by kernel_rfl) rfl ?_
  refine O_q 2 ?_
  refine O_ldb (o := 1) u1 (by kernel_rfl) rfl ?_
  refine O_owst (n := N + 2) (i := N + 1) (v' := .i hgh) (u3.row 0 (by omega)) fo_len (fo_get (by omega)) rfl ?_ (hi := (by rw [← addI_nat (k := N) (by omega)]; kernel_rfl))
  have n1 := u3.put (v := hgh) (show 0 < N + 2 by omega) (show N + 1 < N + 2 by omega)
  have r0 := u3.lr 0 (by omega)
  have hrA := ne_get uA (u3.row 0 (by omega)) (fun e => obj_ne1 e.symm)
  have y0 := get_ne (o' := (.live .nil 1 (((rowL (N + 2) (m' 0)).map cI_i64).set (N + 1) [.i (hgh)]))) u0 (show 0 ≠ rid 0 by omega)
  have y1 := get_ne (o' := (.live .nil 1 (((rowL (N + 2) (m' 0)).map cI_i64).set (N + 1) [.i (hgh)]))) u1 (show 1 ≠ rid 0 by omega)
  have y2 := get_ne (o' := (.live .nil 1 (((rowL (N + 2) (m' 0)).map cI_i64).set (N + 1) [.i (hgh)]))) u2 (show 2 ≠ rid 0 by omega)
  have yA := get_ne (o' := (.live .nil 1 (((rowL (N + 2) (m' 0)).map cI_i64).set (N + 1) [.i (hgh)]))) uA hrA
  generalize H3.set (rid 0) (.live .nil 1 (((rowL (N + 2) (m' 0)).map cI_i64).set (N + 1) [.i (hgh)])) = H4 at n1 y0 y1 y2 yA ⊢
  refine O_nil ?_
  refine Gh_e ⟨⟨61, [(2, .po 0 0), (3, .po 1 0), (4, .po 2 0), (5, .po A 0)]⟩, H4⟩ ?_
  refine W_seq ?_
  refine W_gh ?_
  refine W_draw ?_
  refine O_q 1 ?_
  refine O_ldb (o := 1) yA (by kernel_rfl) rfl ?_
  refine O_q 1 ?_
  refine O_ldb (o := 0) y0 (by kernel_rfl) rfl ?_
  refine O_q 1 ?_
  refine O_owld (n := N + 2) (i := N + 1) (v := .own (rid (N + 1)) (N + 2) 0 (N + 2)) n1.top (by simp) (mr_get (by omega)) ?_ (hi := (by rw [← addI_nat (k := N) (by omega)]; kernel_rfl))
  refine O_q 1 ?_
  refine O_ldb (o := 0) y1 (by kernel_rfl) rfl ?_
  refine O_q 1 ?_
  refine O_owst (n := N + 2) (i := 0) (v' := .i (IntKind.i64.wrap (0 - lo))) (n1.row (N + 1) (by omega)) fo_len (fo_get (by omega)) rfl ?_
  have n2 := n1.put (v := IntKind.i64.wrap (0 - lo)) (show N + 1 < N + 2 by omega) (show 0 < N + 2 by omega)
  have r1 := n1.lr (N + 1) (by omega)
  have hrB := ne_get yA (n1.row (N + 1) (by omega)) (fun e => obj_ne1 e.symm)
  have z2 := get_ne (o' := (.live .nil 1 (((rowL (N + 2) (up2 m' 0 (N + 1) hgh (N + 1))).map cI_i64).set 0 [.i (IntKind.i64.wrap (0 - lo))]))) y2 (show 2 ≠ rid (N + 1) by omega)
  have zA := get_ne (o' := (.live .nil 1 (((rowL (N + 2) (up2 m' 0 (N + 1) hgh (N + 1))).map cI_i64).set 0 [.i (IntKind.i64.wrap (0 - lo))]))) yA hrB
  generalize H4.set (rid (N + 1)) (.live .nil 1 (((rowL (N + 2) (up2 m' 0 (N + 1) hgh (N + 1))).map cI_i64).set 0 [.i (IntKind.i64.wrap (0 - lo))])) = H5 at n2 z2 zA ⊢
  refine O_nil ?_
  refine Gh_e ⟨⟨61, [(4, .po 2 0), (5, .po A 0)]⟩, H5⟩ ?_
  refine W_seq ?_
  refine W_gh ?_
  refine W_reg ?_
  refine O_lda zA (by kernel_rfl) rfl ?_
  refine O_st (o := 0) (sz := 2) (cs := [.i 0, .ro []]) (id := 2) [.i ((N + 1 : Nat) : Int), .own b (N + 2) 0 (N + 2)] [.i ((N + 1 : Nat) : Int), .own b (N + 2) 0 (N + 2)] z2 ?_
  refine O_nil ?_
  refine Gh_e ⟨⟨61, [(4, .po 2 0)]⟩, H5.set 2 (.lv 2 [.i ((N + 1 : Nat) : Int), .own b (N + 2) 0 (N + 2)])⟩ ?_
  refine W_ret ?_
  have hmat : r = matL (N + 2) (up2 (up2 m' 0 (N + 1) hgh) (N + 1) 0 (IntKind.i64.wrap (0 - lo))) := by
    rw [hr]
    refine matL_congr (fun a b ha hb => ?_)
    rw [hlo]
    by_cases e1 : a < N + 1 ∧ b < N + 1
    · rw [if_pos e1, up2_ne (by omega), up2_ne (by omega), u4 a b ha hb, if_pos ⟨e1.1, e1.2, by omega⟩]
    rw [if_neg e1]
    by_cases e2 : a = 0 ∧ b = N + 1
    · rw [if_pos e2, up2_ne (by omega)]; obtain ⟨rfl, rfl⟩ := e2; rw [up2_eq]
    rw [if_neg e2]
    by_cases e3 : a = N + 1 ∧ b = 0
    · rw [if_pos e3]; obtain ⟨rfl, rfl⟩ := e3; rw [up2_eq]
    rw [if_neg e3, up2_ne e3, up2_ne e2, u4 a b ha hb, if_neg (fun g => e1 ⟨g.1, g.2.1⟩)]
  exact Fin_pk (l := [.agg [.i ((N + 1 : Nat) : Int), .own b (N + 2) 0 (N + 2)]]) (res_box rfl (sq_self z2) rfl rfl) (pk_agg (ncbox (N := N + 1) hmat (n2.set (by omega))))

theorem p38 (a0 : SBounds) (a1 : SSpan) (r : SBounds × Int) (h : m38 a0 a1 = some r) : Pt E0 hp 38 [.agg (cSBounds a0), .agg (cSSpan a1)] (.tup [.agg [.i r.1.N, .ro (r.1.Most.map (cL cI_i64))], .i r.2]) := by
  obtain ⟨c, e28, _, hR⟩ := check_eq0 a0
  unfold m38 at h
  rw [e28] at h
  simp only [Option.bind_some] at h
  refine Pt_W fn38 rfl (by decide) ?_
  refine W_seq ?_
  refine W_gh ?_
  refine W_reg ?_
  refine O_p 4 ?_
  refine O_nil ?_
  refine Gh_e ⟨⟨27, [(2, .po 0 0), (3, .po 1 0), (4, .po 2 0)]⟩, [.lv 2 (cSBounds a0), .lv 2 [.i a1.Low, .i a1.High], .lv 2 [.i 0, .ro []]]⟩ ?_
  refine W_seq ?_
  refine W_seq ?_
  refine W_gh ?_
  refine W_reg ?_
  refine O_p 1 ?_
  refine O_pt (xs := [.agg (cSBounds a0)]) (by kernel_rfl) (bels_cons (okSBounds.bel a0) rfl) rfl (p28 a0 c e28) ?_
  refine O_p 1 ?_
  refine O_nil ?_
  refine Gh_e ⟨⟨27, [(2, .po 0 0), (3, .po 1 0), (4, .po 2 0), (6, .i c)]⟩, [.lv 2 (cSBounds a0), .lv 2 [.i a1.Low, .i a1.High], .lv 2 [.i 0, .ro []]]⟩ ?_
  refine W_seq ?_
  refine W_gh ?_
  refine W_reg ?_
  refine O_p 2 ?_
  refine O_nil ?_
  refine Gh_e ⟨⟨27, [(2, .po 0 0), (3, .po 1 0), (4, .po 2 0), (6, .i c), (11, .bool (c != 0))]⟩, [.lv 2 (cSBounds a0), .lv 2 [.i a1.Low, .i a1.High], .lv 2 [.i 0, .ro []]]⟩ ?_
  refine W_gh ?_
  refine W_cond (c := (c != 0)) (by kernel_rfl) (fun hc => ?_) (fun hc => ?_)
  · replace h := fork_t hc h
    refine W_seq ?_
    refine W_gh ?_
    refine W_reg ?_
    refine O_p 4 ?_
    refine O_nil ?_
    refine Gh_e ⟨⟨27, [(2, .po 0 0), (3, .po 1 0), (4, .po 2 0), (5, .i c), (11, .bool (c != 0))]⟩, [.lv 2 (cSBounds a0), .lv 2 [.i a1.Low, .i a1.High], .lv 2 [.i 0, .ro []]]⟩ ?_
    refine W_ret ?_
    replace h := Option.some.inj h; subst h
    exact Fin_free (l := [.agg [.i 0, .ro []], .i c]) (by kernel_rfl) (by kernel_rfl) rfl
  replace h := fork_f hc h
  have hc0 : c = 0 := by simpa using hc
  refine W_skip ?_
  refine Gh_e ⟨⟨27, [(2, .po 0 0), (3, .po 1 0), (4, .po 2 0)]⟩, [.lv 2 (cSBounds a0), .lv 2 [.i a1.Low, .i a1.High], .lv 2 [.i 0, .ro []]]⟩ ?_
  refine W_seq ?_
  refine W_seq ?_
  refine W_gh ?_
  refine W_reg ?_
  refine O_p 3 ?_
  refine O_nil ?_
  refine Gh_e ⟨⟨27, [(2, .po 0 0), (3, .po 1 0), (4, .po 2 0), (16, .bool (a0.N == 12))]⟩, [.lv 2 (cSBounds a0), .lv 2 [.i a1.Low, .i a1.High], .lv 2 [.i 0, .ro []]]⟩ ?_
  refine W_gh ?_
  refine W_cond (c := (a0.N == 12)) (by kernel_rfl) (fun c1 => ?_) (fun c1 => ?_)
  · replace h := fork_t c1 h
    refine W_seq ?_
    refine W_gh ?_
    refine W_reg ?_
    refine O_p 3 ?_
    refine O_nil ?_
    refine Gh_e ⟨⟨27, [(2, .po 0 0), (3, .po 1 0), (4, .po 2 0), (5, .i 5), (16, .bool (a0.N == 12))]⟩, [.lv 2 (cSBounds a0), .lv 2 [.i a1.Low, .i a1.High], .lv 2 [.i 0, .ro []]]⟩ ?_
    refine W_ret ?_
    replace h := Option.some.inj h; subst h
    exact Fin_free (l := [.agg [.i 0, .ro []], .i 5]) (by kernel_rfl) (by kernel_rfl) rfl
  replace h := fork_f c1 h
  refine W_skip ?_
  refine Gh_e ⟨⟨27, [(2, .po 0 0), (3, .po 1 0), (4, .po 2 0)]⟩, [.lv 2 (cSBounds a0), .lv 2 [.i a1.Low, .i a1.High], .lv 2 [.i 0, .ro []]]⟩ ?_
  obtain ⟨e, e75, h⟩ := bind_some h
  refine W_seq ?_
  refine W_seq ?_
  refine W_gh ?_
  refine W_reg ?_
  refine O_p 1 ?_
  refine O_pt (xs := [.agg (cSSpan a1)]) (by kernel_rfl) (bels_cons (okSSpan.bel a1) rfl) rfl (p75 a1 e e75) ?_
  refine O_p 1 ?_
  refine O_nil ?_
  refine Gh_e ⟨⟨27, [(2, .po 0 0), (3, .po 1 0), (4, .po 2 0), (7, .i e)]⟩, [.lv 2 (cSBounds a0), .lv 2 [.i a1.Low, .i a1.High], .lv 2 [.i 0, .ro []]]⟩ ?_
  refine W_seq ?_
  refine W_gh ?_
  refine W_reg ?_
  refine O_p 2 ?_
  refine O_nil ?_
  refine Gh_e ⟨⟨27, [(2, .po 0 0), (3, .po 1 0), (4, .po 2 0), (7, .i e), (21, .bool (e != 0))]⟩, [.lv 2 (cSBounds a0), .lv 2 [.i a1.Low, .i a1.High], .lv 2 [.i 0, .ro []]]⟩ ?_
  refine W_gh ?_
  refine W_cond (c := (e != 0)) (by kernel_rfl) (fun c2 => ?_) (fun c2 => ?_)
  · replace h := fork_t c2 h
    refine W_seq ?_
    refine W_gh ?_
    refine W_reg ?_
    refine O_p 4 ?_
    refine O_nil ?_
    refine Gh_e ⟨⟨27, [(2, .po 0 0), (3, .po 1 0), (4, .po 2 0), (5, .i e), (21, .bool (e != 0))]⟩, [.lv 2 (cSBounds a0), .lv 2 [.i a1.Low, .i a1.High], .lv 2 [.i 0, .ro []]]⟩ ?_
    refine W_ret ?_
    replace h := Option.some.inj h; subst h
    exact Fin_free (l := [.agg [.i 0, .ro []], .i e]) (by kernel_rfl) (by kernel_rfl) rfl
  replace h := fork_f c2 h
  refine W_skip ?_
  refine Gh_e ⟨⟨27, [(2, .po 0 0), (3, .po 1 0), (4, .po 2 0)]⟩, [.lv 2 (cSBounds a0), .lv 2 [.i a1.Low, .i a1.High], .lv 2 [.i 0, .ro []]]⟩ ?_
  cases h6 : decide (a0.N > 6)
  case true => rw [h6, cond_true] at h; cases h
  rw [h6, cond_false] at h
  have h6' := of_decide_eq_false h6
  obtain ⟨N, hN, hrt⟩ := (hR hc0).rt h6'
  have hN7 := hrt.hN
  have hlo : IntKind.i64.wrap (0 - a1.Low) = -a1.Low := span_neg (a := a1) e75 c2
  have hcs : cSBounds a0 = [.i (N : Int), .ro (a0.Most.map (cL cI_i64))] := by rw [cSB, hN]
  rw [hrt.sq.1, hN] at h
  replace h := Option.some.inj h; subst h
  rw [hcs]
  refine W_seq ?_
  refine W_gh ?_
  refine W_reg ?_
  refine O_p 2 ?_
  refine O_pt (xs := [.agg [.i (N : Int), .ro (a0.Most.map (cL cI_i64))], .agg [.i a1.Low, .i a1.High]]) (by kernel_rfl) (bels_cons (okSBounds.bel ⟨(N : Int), a0.Most⟩) (bels_cons (okSSpan.bel a1) rfl)) rfl (p76 hrt hlo rfl) ?_
  refine O_p 2 ?_
  refine O_nil ?_
  refine Gh_e ⟨⟨27, [(4, .po 2 0), (5, .i 0)]⟩, [.lv 2 [.i (N : Int), .ro (a0.Most.map (cL cI_i64))], .lv 2 [.i a1.Low, .i a1.High], .lv 2 [.i ((N + 1 : Nat) : Int), .ro ((growL a0.Most (N + 1) a1.Low a1.High).map (cL cI_i64))]]⟩ ?_
  refine W_ret ?_
  exact Fin_free (l := [.agg [.i ((N + 1 : Nat) : Int), .ro ((growL a0.Most (N + 1) a1.Low a1.High).map (cL cI_i64))], .i 0]) (by kernel_rfl) rfl (show AV.bels 0 [.agg (cSBounds ⟨((N + 1 : Nat) : Int), growL a0.Most (N + 1) a1.Low a1.High⟩), .i 0] = true from bels_cons (okSBounds.bel ⟨((N + 1 : Nat) : Int), growL a0.Most (N + 1) a1.Low a1.High⟩) rfl)

end G11
