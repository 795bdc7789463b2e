/- The code of group.Ring computes its model. No condition. -/
import Derived.Test.YtoobbcmofleljaaDoorG18E
import Derived.Test.YtoobbcmofleljaaDoorG18p0
import Derived.Test.YtoobbcmofleljaaDoorG18h
namespace G18
open Go Go.Pl Go.Am Go.Am.As
def ringSeq : SSequence := ⟨2, [⟨[⟨0, true⟩], 0⟩, ⟨[⟨0, false⟩], 0⟩, ⟨[⟨1, true⟩], 0⟩, ⟨[⟨1, false⟩], 0⟩]⟩
def txt1 : List UInt8 := [65, 43, 59, 32, 66, 43, 59, 32, 66, 45, 59, 32, 65, 45]
def txt2 : List UInt8 := [65, 43, 59, 32, 65, 45, 59, 32, 66, 43, 59, 32, 66, 45]
def txt3 : List UInt8 := [65, 43, 59, 32, 66, 43, 59, 32, 65, 45, 59, 32, 67, 43, 59, 32, 66, 45, 59, 32, 67, 45]
def seq1 : SSequence := ⟨2, [⟨[⟨0, true⟩], 0⟩, ⟨[⟨1, true⟩], 0⟩, ⟨[⟨1, false⟩], 0⟩, ⟨[⟨0, false⟩], 0⟩]⟩
def seq3 : SSequence := ⟨3, [⟨[⟨0, true⟩], 0⟩, ⟨[⟨1, true⟩], 0⟩, ⟨[⟨0, false⟩], 0⟩, ⟨[⟨2, true⟩], 0⟩, ⟨[⟨1, false⟩], 0⟩, ⟨[⟨2, false⟩], 0⟩]⟩
theorem text_run1 : As.cIT E0.fns (As.execT E0 hp 100000) 34 [.str txt1] = some (.agg (cSSequence seq1)) := by kernel_rfl
theorem text_run2 : As.cIT E0.fns (As.execT E0 hp 100000) 34 [.str txt2] = some (.agg (cSSequence ringSeq)) := by kernel_rfl
theorem text_run3 : As.cIT E0.fns (As.execT E0 hp 100000) 34 [.str txt3] = some (.agg (cSSequence seq3)) := by kernel_rfl
theorem m34_cases (a0 : List UInt8) (r : SSequence) (h : m34 a0 = some r) : (a0 = txt1 ∧ r = seq1) ∨ (a0 = txt2 ∧ r = ringSeq) ∨ (a0 = txt3 ∧ r = seq3) := by
  unfold m34 at h
  cases h1 : decide (a0 = txt1) with
  | true =>
    have e := of_decide_eq_true h1
    unfold txt1 at h1
    rw [h1] at h
    exact .inl ⟨e, (Option.some.inj h).symm⟩
  | false =>
    unfold txt1 at h1
    rw [h1] at h
    cases h2 : decide (a0 = txt2) with
    | true =>
      have e := of_decide_eq_true h2
      unfold txt2 at h2
      rw [h2] at h
      exact .inr (.inl ⟨e, (Option.some.inj h).symm⟩)
    | false =>
      unfold txt2 at h2
      rw [h2] at h
      cases h3 : decide (a0 = txt3) with
      | true =>
        have e := of_decide_eq_true h3
        unfold txt3 at h3
        rw [h3] at h
        exact .inr (.inr ⟨e, (Option.some.inj h).symm⟩)
      | false =>
        unfold txt3 at h3
        rw [h3] at h
        simp at h
theorem p34 (a0 : (List UInt8)) (r : SSequence) (h : m34 a0 = some r) : Pt E0 hp 34 [.str a0] (.agg [.int .i64 r.Actuators, .ro (r.Steps.map cSStep)]) := by
  rcases m34_cases a0 r h with ⟨rfl, rfl⟩ | ⟨rfl, rfl⟩ | ⟨rfl, rfl⟩
  · exact ⟨100000, text_run1⟩
  · exact ⟨100000, text_run2⟩
  · exact ⟨100000, text_run3⟩
end G18

namespace G18
open Go hiding Obj mark
open Go.Pl Go.Am Go.Am.As
set_option linter.unusedVariables false

abbrev cl (l : List Nat) : List (List AV) := (ints l).map cI_i64
theorem cl_len (l : List Nat) : (cl l).length = l.length := by simp [cl, ints_len]

/-- the variables that the search holds -/
abbrev cap41 : List AV := [.po 0 0, .po 1 0, .po 2 0, .po 3 0, .po 4 0]
def HH (s : SSequence) (fw : Nat) (bv : AV) (R : List Obj) : List Obj :=
  .lv 2 [.i s.Actuators, .ro (s.Steps.map cSStep)] :: .lv 1 [.i (s.Steps.length : Int)] :: .lv 1 [.i (fw : Int)] :: .lv 1 [bv] :: .lv 1 [.fn 41 cap41] :: R

theorem HH_len (s : SSequence) (fw : Nat) (bv : AV) (R : List Obj) : (HH s fw bv R).length = R.length + 5 := rfl
theorem HH_bel {s : SSequence} {fw : Nat} {R : List Obj} {n : Nat} (hn : 5 ≤ n) (h : objsBel n R = true) : objsBel n (HH s fw (.ro []) R) = true := by
  have h1 : AV.bels 0 (cSSequence s) = true := okSSequence.bel s
  refine ob_boxn (bels_mono (Nat.zero_le n) _ h1) (ob_boxn rfl (ob_boxn rfl (ob_boxn rfl (ob_boxn ?_ h))))
  simp only [AV.bels, AV.bel, Bool.and_true, Bool.and_eq_true, decide_eq_true_eq]
  omega

theorem objsBel_app {n : Nat} : ∀ {A B : List Obj}, objsBel n A = true → objsBel n B = true → objsBel n (A ++ B) = true
  | [], _, _, h => h
  | o :: A, B, h, h2 => by
    simp only [objsBel, Bool.and_eq_true, List.cons_append] at h ⊢
    exact ⟨h.1, objsBel_app h.2 h2⟩
theorem objsBel_get {n : Nat} : ∀ {A : List Obj} {i : Nat} {o : Obj}, objsBel n A = true → A[i]? = some o → o.bel n = true
  | [], i, o, _, h => by simp at h
  | x :: A, 0, o, h, h2 => by
    simp only [objsBel, Bool.and_eq_true] at h
    simp at h2; subst h2; exact h.1
  | x :: A, i + 1, o, h, h2 => by
    simp only [objsBel, Bool.and_eq_true] at h
    exact objsBel_get h.2 (by simpa using h2)

/-- a ring is found: it is in the variable, own memory -/
def Found (y : List Nat) (H : List Obj) : Prop := ∃ id fl fl', H[3]? = some (.live fl 1 [[.own id y.length 0 y.length]]) ∧ H[id]? = some (.live fl' 1 (cl y))

theorem mark_get {f : Fl → Fl} {H : List Obj} {i j sz : Nat} {fl : Fl} {es : List (List AV)} (h : H[j]? = some (.live fl sz es)) : ∃ fl', (mark f H i)[j]? = some (.live fl' sz es) := by
  unfold mark
  cases e : H[i]? with
  | none => exact ⟨fl, h⟩
  | some o =>
    cases o with
    | live a b c =>
      dsimp only
      by_cases hij : i = j
      · subst hij
        rw [e] at h
        injection h with h
        injection h with h1 h2 h3
        subst h1; subst h2; subst h3
        obtain ⟨hl, _⟩ := List.getElem?_eq_some_iff.1 e
        exact ⟨_, by rw [List.getElem?_set_self hl]⟩
      · exact ⟨fl, by rw [List.getElem?_set_ne hij]; exact h⟩
    | _ => exact ⟨fl, h⟩
theorem Found.mark {y : List Nat} {H : List Obj} (h : Found y H) (f : Fl → Fl) (i : Nat) : Found y (Go.Am.mark f H i) := by
  obtain ⟨id, fl, fl', h1, h2⟩ := h
  obtain ⟨a, e1⟩ := mark_get (f := f) (i := i) h1
  obtain ⟨b, e2⟩ := mark_get (f := f) (i := i) h2
  exact ⟨id, a, b, e1, e2⟩
theorem Found.trunc {y : List Nat} {H : List Obj} (h : Found y H) {n : Nat} (hn : 3 < n) (hb : objsBel n (H.take n) = true) : Found y (H.take n) := by
  obtain ⟨id, fl, fl', h1, h2⟩ := h
  have e1 : (H.take n)[3]? = some (.live fl 1 [[.own id y.length 0 y.length]]) := by rw [List.getElem?_take_of_lt hn]; exact h1
  have hb := objsBel_get hb e1
  have hid : id < n := by
    simp only [Obj.bel, AV.belss, AV.bels, AV.bel, Bool.and_true, decide_eq_true_eq] at hb
    exact hb
  exact ⟨id, fl, fl', e1, by rw [List.getElem?_take_of_lt hid]; exact h2⟩

theorem Gh_fT {y : List Nat} {b n : Nat} {gs : List GA} {s : ST} {N : ST → Prop} (hb : 3 < b + n) (hF : Found y s.H) (k : ∀ H', Found y H' → Gh b gs ⟨s.tmps, H'⟩ N) : Gh b (.trunc n :: gs) s N := by
  cases hc : (Nat.blt (b + n) s.H.length && (T.bels (b + n) s.tmps && objsBel (b + n) (s.H.take (b + n)))) with
  | true =>
    refine Gh_one (s1 := ⟨s.tmps, s.H.take (b + n)⟩) ?_ (k _ (hF.trunc hb ?_))
    · simp only [ghost1T, hc, if_true]
    · simp only [Bool.and_eq_true] at hc; exact hc.2.2
  | false =>
    refine Gh_one (s1 := ⟨s.tmps, s.H⟩) ?_ (k _ hF)
    simp only [ghost1T, hc, Bool.false_eq_true, if_false]
theorem Gh_fR {y : List Nat} {b t id e o l : Nat} {gs : List GA} {s : ST} {N : ST → Prop} (hx : s.tmps.get t = .own id e o l) (hF : Found y s.H) (k : ∀ H', Found y H' → Gh b gs ⟨s.tmps, H'⟩ N) : Gh b (.res t :: gs) s N := by
  cases hc : noKid (s.H.drop (id + 1)) with
  | true =>
    refine Gh_one (s1 := ⟨s.tmps, mark Fl.res s.H id⟩) ?_ (k _ (hF.mark _ _))
    simp only [ghost1T, hx, hc, if_true]
  | false =>
    refine Gh_one (s1 := ⟨s.tmps, s.H⟩) ?_ (k _ hF)
    simp only [ghost1T, hx, hc, Bool.false_eq_true, if_false]

theorem mark_last {f : Fl → Fl} {A : List Obj} {fl : Fl} {sz : Nat} {es : List (List AV)} : mark f (A ++ [.live fl sz es]) A.length = A ++ [.live (f fl) sz es] := by
  unfold mark
  have e : (A ++ [Obj.live fl sz es])[A.length]? = some (.live fl sz es) := by simp
  rw [e]
  simp
theorem Gh_sh {b t e o l : Nat} {gs : List GA} {tm : T} {A : List Obj} {fl : Fl} {sz : Nat} {x : List AV} {es : List (List AV)} {N : ST → Prop} (hx : tm.get t = .own A.length e o l) (k : Gh b gs ⟨tm, A ++ [.live fl.sh sz (x :: es)]⟩ N) : Gh b (.sh t :: gs) ⟨tm, A ++ [.live fl sz (x :: es)]⟩ N := by
  refine Gh_one ?_ k
  have e1 : getLive (A ++ [Obj.live fl sz (x :: es)]) A.length = some (sz, x :: es) := by simp [getLive]
  simp only [ghost1T, hx, e1, mark_last]
theorem Gh_res {b t e o l : Nat} {gs : List GA} {tm : T} {A : List Obj} {fl : Fl} {sz : Nat} {es : List (List AV)} {N : ST → Prop} (hx : tm.get t = .own A.length e o l) (k : Gh b gs ⟨tm, A ++ [.live fl.res sz es]⟩ N) : Gh b (.res t :: gs) ⟨tm, A ++ [.live fl sz es]⟩ N := by
  refine Gh_one ?_ k
  have e1 : (A ++ [Obj.live fl sz es]).drop (A.length + 1) = [] := by simp
  simp only [ghost1T, hx, e1, noKid, if_true, mark_last]

/- the two operations of the drawn region that make memory -/
theorem act_bsl {G : Nat → List AV} {cI : CI} {pl d : Nat} {x : RX} {t : T} {H : List Obj} {n : Int} (hx : evT G t x = .i n) (hH : H[pl]? = some .rsv) :
    actDT G cI pl ⟨some d, none, .bsl 1 [.int .i64 0] 1 [(0, x)]⟩ t H = some (.own pl 1 0 1, H.set pl (.live .norm 1 [[.i n]]), { w := [pl] }) := by
  obtain ⟨hl, _⟩ := List.getElem?_eq_some_iff.1 hH
  have e1 : wantT t (none : Option (Nat × Bool)) = some true := rfl
  have e2 : plOk H pl (.bsl 1 [.int .i64 0] 1 [(0, x)]) = true := by simp [plOk, hH]
  have e3 : evalOpe (evT G t) (fun _ => false) cI (fun _ _ _ => none) pl (.bsl 1 [.int .i64 0] 1 [(0, x)]) H = some (.own pl 1 0 1, H.set pl (.live .norm 1 [[.i n]])) := by
    simp only [evalOpe, RO.kind, evalWe, hx, List.map_cons, List.map_nil]
    rw [if_pos ⟨rfl, rfl, by decide⟩]
    simp [fillS, AV.cells, allOne, AV.one, putObj, hl]
  simp only [actDT, e1, e2, if_true, e3]
  rfl

theorem act_app {G : Nat → List AV} {cI : CI} {pl d id p0 m : Nat} {x y : RX} {t : T} {H : List Obj} {k : Int} {fl fl2 : Fl} {es : List (List AV)} (hx : evT G t x = .own id m 0 m) (hy : evT G t y = .own p0 1 0 1)
    (h1 : H[id]? = some (.live fl 1 es)) (hm : es.length = m) (h2 : H[p0]? = some (.live .norm 1 [[.i k]])) (hp : H[pl]? = some .rsv) (hg : fl.grows = false) (hf : fl.forked = some fl2) (hid : id < pl) (hpos : 0 < m) (hb : m < 1000000) :
    actDT G cI pl ⟨some d, none, .app 1 8 x y⟩ t H = some (.own pl (m + 1) 0 (m + 1), (H.set id (.live fl2 1 es)).set pl (.live .ch 1 (es ++ [[.i k]])), { r := [p0], w := [pl, id] }) := by
  obtain ⟨hl, _⟩ := List.getElem?_eq_some_iff.1 hp
  have e1 : wantT t (none : Option (Nat × Bool)) = some true := rfl
  have e2 : plOk H pl (.app 1 8 x y) = true := by simp [plOk, hp]
  have hne : es ≠ [] := by intro hc; subst hc; simp at hm; omega
  have e3 : evalOpe (evT G t) (fun _ => false) cI (fun _ _ _ => none) pl (.app 1 8 x y) H = some (.own pl (m + 1) 0 (m + 1), (H.set id (.live fl2 1 es)).set pl (.live .ch 1 (es ++ [[.i k]]))) := by
    have hall : ([[AV.i k]].all fun e => e.length == 1 && allOne e) = true := by simp [allOne, AV.one]
    simp only [evalOpe, RO.kind, evalWe, hx, hy, append, elemsOf, getLive, h2, h1, List.length_singleton, if_true, List.drop_zero, hm, nlAt, hg, hf, List.take_one, List.head?_cons, Option.toList_some, hall]
    rw [if_pos ⟨trivial, trivial, trivial, trivial, by omega, by omega⟩, if_neg (by simp), if_pos ⟨hid, hne, by simp⟩]
    simp [putObj, hl]
  simp only [actDT, e1, e2, if_true, e3]
  simp only [fpOfe, hx, hy, refs]

theorem sets3 (A : List Obj) (x a b c : Obj) : ((((A ++ [x]) ++ [Obj.rsv, Obj.rsv]).set (A.length + 1) a).set A.length b).set (A.length + 2) c = A ++ [b, a, c] := by
  induction A with
  | nil => rfl
  | cons o A ih =>
    exact congrArg (o :: ·) ih

theorem W_lp {E : Env} {hp : Nat → Bool} {b : Nat} {N : ST → Prop} {X : Nat → ST → Prop} {R : ST → Prop} {s : ST} {p : RC} (I : ST → Prop) (m : ST → Nat) (h0 : I s) (h : ∀ s, I s → W E hp p b (fun s' => I s' ∧ m s' < m s) X R s) : W E hp (.loop p) b N X R s :=
  WP_loop I m h0 (fun s hs => WP.mono (h s hs) (fun e s' q => by cases e <;> exact q))

theorem idx_last {s : SSequence} {l : List Nat} (h : Pre s l) (hn : l.length < 1000000) : idx (ints l) (subI .i64 (l.length : Int) 1) = some (lst l : Int) := by
  have hpos : 0 < l.length := List.length_pos_iff.2 h.ne
  rw [sub_nat hpos (by omega), idx_lt (show l.length - 1 < (ints l).length by rw [ints_len]; omega), lst_get h.ne]
  simp [ints]
theorem idx_hd {s : SSequence} {l : List Nat} (h : Pre s l) : idx (ints l) 0 = some (hd l : Int) := by
  have hpos : 0 < l.length := List.length_pos_iff.2 h.ne
  have := idx_lt (l := ints l) (k := 0) (by rw [ints_len]; exact hpos)
  rw [show (0 : Int) = ((0 : Nat) : Int) from rfl, this, hd_get h.ne]
  simp [ints]
theorem ints_app (l : List Nat) (k : Nat) : cl (l ++ [k]) = cl l ++ [[.i (k : Int)]] := by
  simp [cl, ints, cI_i64]

/-- a list is copied -/
theorem wc43 {H : List Obj} {b id : Nat} {fl : Fl} {l : List Nat} {K : AV → List Obj → Prop} (hH : H[id]? = some (.live fl 1 (cl l))) (hfl : fl ≠ .nil) (hl : l.length < 1000000) (hbase : H.length = b)
    (hk : K (.own b l.length 0 l.length) (H ++ [.live .norm 1 (cl l)])) : WC E0 hp false 43 [.own id l.length 0 l.length] H K := by
  refine WC_inl fn43 (.inl rfl) rfl (by decide) ?_
  rw [hbase]
  suffices h : W E0 hp _ b (fun s' => ∃ l', resultsT [.inl 2] s' = some l' ∧ K (oneOf l') s'.H) (fun _ _ => False) (fun s' => ∃ l', resultsT [.inl 2] s' = some l' ∧ K (oneOf l') s'.H) _ from WP.mono h (fun e s' q => by cases e <;> exact q)
  refine W_seq ?_
  refine W_gh ?_
  refine W_reg ?_
  refine O_p 1 ?_
  refine O_nil ?_
  refine Gh_e ⟨⟨8, [(0, .own id l.length 0 l.length)]⟩, H⟩ ?_
  refine W_seq ?_
  refine W_seq ?_
  refine W_gh ?_
  refine W_reg ?_
  refine O_p 1 ?_
  have hn : (cl l).length = l.length := cl_len l
  refine O_op1 (v := .bool false) (H1 := H) (fun hc => nomatch (show Kind.read = Kind.call from hc)) rfl ?_ ?_
  · have e1 : isNil H (.own id l.length 0 l.length) = some false := by
      simp [isNil, getLive, hH, hn, nlAt, hfl]
    show (match Go.Am.eqN H false (.own id l.length 0 l.length) .nils with | some v => some (v, H) | none => none) = _
    simp only [Go.Am.eqN, e1]; rfl
  refine O_nil ?_
  refine Gh_e ⟨⟨8, [(0, .own id l.length 0 l.length), (4, .bool false)]⟩, H⟩ ?_
  refine W_gh ?_
  refine W_cond (c := false) (by kernel_rfl) (fun c => by simp at c) (fun _ => ?_)
  refine W_skip ?_
  refine Gh_e ⟨⟨8, [(0, .own id l.length 0 l.length)]⟩, H⟩ ?_
  refine W_seq ?_
  refine W_gh ?_
  refine W_reg ?_
  refine O_op1 (v := .own b 0 0 0) (H1 := H ++ [.live .norm 1 []]) (fun hc => nomatch (show Kind.write = Kind.call from hc)) rfl ?_ ?_
  · show evalWe (evT E0.glob ⟨8, [(0, .own id l.length 0 l.length)]⟩) H H.length (.bsl 1 [.int .i64 0] 0 []) = _
    simp only [evalWe]
    rw [if_pos ⟨rfl, rfl, by decide⟩]
    simp [fillS, putObj, hbase]
  refine O_p 1 ?_
  have hlt : id < H.length := (List.getElem?_eq_some_iff.1 hH).1
  refine O_op1 (v := .own b l.length 0 l.length) (H1 := H ++ [.live .norm 1 (cl l)]) (fun hc => nomatch (show Kind.write = Kind.call from hc)) rfl ?_ ?_
  · show append (H ++ [.live .norm 1 []]) _ 1 8 (.own b 0 0 0) (.own id l.length 0 l.length) = _
    have g1 : (H ++ [Obj.live .norm 1 []])[id]? = some (.live fl 1 (cl l)) := by rw [List.getElem?_append_left hlt]; exact hH
    have g2 : (H ++ [Obj.live .norm 1 []])[b]? = some (.live .norm 1 []) := by rw [← hbase]; simp
    have ht : (cl l).take l.length = cl l := List.take_of_length_le (by rw [hn]; exact Nat.le_refl _)
    have hall : ((cl l).all fun e => e.length == 1 && allOne e) = true := by simp [cl, okI_i64.len, okI_i64.one]
    simp only [append, elemsOf, getLive, g1, g2, hn, if_true, List.drop_zero, ht, hall, List.length_nil, nlAt, Fl.grows, Nat.zero_add, List.nil_append]
    rw [if_pos ⟨trivial, trivial, trivial, trivial, by omega, by omega⟩, ← hbase]
    simp
  refine O_p 1 ?_
  refine O_nil ?_
  refine Gh_one (s1 := ⟨⟨8, [(2, .own b l.length 0 l.length)]⟩, H ++ [.live .norm 1 (cl l)]⟩) (by kernel_rfl) ?_
  refine Gh_trunc0 (by rw [← Bool.not_eq_true, Nat.blt_eq]; simp; omega) ?_
  refine Gh_nil ?_
  refine W_ret ?_
  refine ⟨[.own b l.length 0 l.length], by kernel_rfl, ?_⟩
  exact hk
end G18

namespace G18
open Go hiding Obj mark
open Go.Pl Go.Am Go.Am.As
set_option linter.unusedVariables false

theorem b_gt {b n : Nat} (h : b < n) : Nat.blt b n = true := by rw [Nat.blt_eq]; exact h

/-- the drawn region: a list is made, and an append that makes a new object -/
theorem region41 {s : SSequence} {fw : Nat} {mid : List Obj} {fl fl2 : Fl} {l : List Nat} {k : Nat} {N : ST → Prop} {X : Nat → ST → Prop} {R : ST → Prop} {b : Nat}
    {tm : T} (h5 : tm.get 5 = .po 4 0) (h0 : tm.get 0 = .own (mid.length + 5) l.length 0 l.length) (h9 : tm.get 9 = .i (k : Int)) (hsz : 60 < tm.sz) (hl : 0 < l.length) (hl2 : l.length < 1000000)
    (hg : fl.grows = false) (hf : fl.forked = some fl2)
    (hk : N ⟨(((((tm.put 56 (.fn 41 cap41)).put 57 (.own (mid.length + 5) l.length 0 l.length)).put 58 (.i (k : Int))).put 59 (.own (mid.length + 6) 1 0 1)).put 60 (.own (mid.length + 7) (l.length + 1) 0 (l.length + 1))),
      HH s fw (.ro []) (mid ++ [.live fl2 1 (cl l), .live .norm 1 [[.i (k : Int)]]]) ++ [.live .ch 1 (cl (l ++ [k]))]⟩) :
    W E0 hp (.drawW [(0, ⟨some 56, none, .load 1 false (.t 5)⟩), (0, ⟨some 57, none, .mov (.t 0)⟩), (0, ⟨some 58, none, .mov (.t 9)⟩), (0, ⟨some 59, none, .bsl 1 [.int .i64 0] 1 [(0, .t 58)]⟩), (1, ⟨some 60, none, .app 1 8 (.t 57) (.t 59)⟩)] 2 [(0, 3), (0, 4)]) b N X R
      ⟨tm, HH s fw (.ro []) mid ++ [.live fl 1 (cl l)]⟩ := by
  have hlen : (HH s fw (.ro []) mid ++ [Obj.live fl 1 (cl l)]).length = mid.length + 6 := by simp [HH]
  have gp : ∀ (t : T) (i j : Nat) (v : AV), i < t.sz → (t.put i v).get j = if j = i then v else t.get j := by
    intro t i j v hi
    unfold T.put T.get
    rw [if_pos hi]
    exact T.getL_putL _ _ _ _
  have sp : ∀ (t : T) (i : Nat) (v : AV), (t.put i v).sz = t.sz := by intro t i v; unfold T.put; split <;> rfl
  refine W_drawW hlen ?_
  have hA : (HH s fw (.ro []) mid ++ [Obj.live fl 1 (cl l)]) ++ List.replicate 2 Obj.rsv = HH s fw (.ro []) (mid ++ [Obj.live fl 1 (cl l)] ++ [.rsv, .rsv]) := rfl
  rw [hA]
  refine WD_act (v := .fn 41 cap41) (H1 := HH s fw (.ro []) (mid ++ [Obj.live fl 1 (cl l)] ++ [.rsv, .rsv])) (f := { r := [4] }) ?_ ?_
  · have e : evT E0.glob tm (.t 5) = .po 4 0 := h5
    simp only [actDT, putD, wantT, plOk, RO.isAlloc, Bool.not_false, Bool.true_or, if_true, evalOpe, RO.kind, evalRe, fpOfe, e]
    rfl
  refine WD_act (v := .own (mid.length + 5) l.length 0 l.length) (H1 := HH s fw (.ro []) (mid ++ [Obj.live fl 1 (cl l)] ++ [.rsv, .rsv])) (f := {}) ?_ ?_
  · have e : evT E0.glob (tm.put 56 (.fn 41 cap41)) (.t 0) = .own (mid.length + 5) l.length 0 l.length := by
      show T.get _ 0 = _
      rw [gp _ _ _ _ (by omega), if_neg (by omega)]; exact h0
    simp only [actDT, putD, wantT, plOk, RO.isAlloc, Bool.not_false, Bool.true_or, if_true, evalOpe, RO.kind, evalPe, fpOfe, e]
  refine WD_act (v := .i (k : Int)) (H1 := HH s fw (.ro []) (mid ++ [Obj.live fl 1 (cl l)] ++ [.rsv, .rsv])) (f := {}) ?_ ?_
  · have e : evT E0.glob ((tm.put 56 (.fn 41 cap41)).put 57 (.own (mid.length + 5) l.length 0 l.length)) (.t 9) = .i (k : Int) := by
      show T.get _ 9 = _
      rw [gp _ _ _ _ (by rw [sp]; omega), if_neg (by omega), gp _ _ _ _ (by omega), if_neg (by omega)]; exact h9
    simp only [actDT, putD, wantT, plOk, RO.isAlloc, Bool.not_false, Bool.true_or, if_true, evalOpe, RO.kind, evalPe, fpOfe, e]
  have g58 : evT E0.glob (putD (putD (putD tm (some 56) (.fn 41 cap41)) (some 57) (.own (mid.length + 5) l.length 0 l.length)) (some 58) (.i (k : Int))) (.t 58) = .i (k : Int) := by
    show T.get (T.put _ _ _) 58 = _
    rw [gp _ _ _ _ (by rw [show ∀ (t : T) d v, putD t (some d) v = t.put d v from fun _ _ _ => rfl, show ∀ (t : T) d v, putD t (some d) v = t.put d v from fun _ _ _ => rfl, sp, sp]; omega), if_pos rfl]
  refine WD_act (act_bsl g58 ?_) ?_
  · show (HH s fw (.ro []) (mid ++ [Obj.live fl 1 (cl l)] ++ [.rsv, .rsv]))[mid.length + 6 + 0]? = _
    show (mid ++ [Obj.live fl 1 (cl l)] ++ [.rsv, .rsv])[mid.length + 1]? = _
    rw [List.getElem?_append_right (by simp)]; simp
  generalize hT3 : putD (putD (putD tm (some 56) (.fn 41 cap41)) (some 57) (.own (mid.length + 5) l.length 0 l.length)) (some 58) (.i (k : Int)) = t3 at g58 ⊢
  have s3 : t3.sz = tm.sz := by subst hT3; show (T.put (T.put (T.put _ _ _) _ _) _ _).sz = _; rw [sp, sp, sp]
  have g57 : t3.get 57 = .own (mid.length + 5) l.length 0 l.length := by
    subst hT3
    show T.get (T.put (T.put (T.put _ _ _) _ _) _ _) 57 = _
    rw [gp _ _ _ _ (by rw [sp, sp]; omega), if_neg (by omega), gp _ _ _ _ (by rw [sp]; omega), if_pos rfl]
  have x57 : evT E0.glob (putD t3 (some 59) (.own (mid.length + 6 + 0) 1 0 1)) (.t 57) = .own (mid.length + 5) l.length 0 l.length := by
    show T.get (T.put _ _ _) 57 = _
    rw [gp _ _ _ _ (by omega), if_neg (by omega)]; exact g57
  have x59 : evT E0.glob (putD t3 (some 59) (.own (mid.length + 6 + 0) 1 0 1)) (.t 59) = .own (mid.length + 6) 1 0 1 := by
    show T.get (T.put _ _ _) 59 = _
    rw [gp _ _ _ _ (by omega), if_pos rfl]
  have hset : (HH s fw (.ro []) (mid ++ [Obj.live fl 1 (cl l)] ++ [.rsv, .rsv])).set (mid.length + 6 + 0) (.live .norm 1 [[.i (k : Int)]]) = HH s fw (.ro []) (mid ++ [Obj.live fl 1 (cl l), .live .norm 1 [[.i (k : Int)]], .rsv]) := by
    show HH s fw (.ro []) ((mid ++ [Obj.live fl 1 (cl l)] ++ [Obj.rsv, Obj.rsv]).set (mid.length + 1) (.live .norm 1 [[.i (k : Int)]])) = _
    congr 1
    rw [List.set_append_right _ _ (by simp)]
    simp
  rw [hset]
  refine WD_act (act_app x57 x59 (fl := fl) (fl2 := fl2) (es := cl l) (k := (k : Int)) ?_ (cl_len l) ?_ ?_ hg hf (by omega) hl hl2) ?_
  · show (mid ++ [Obj.live fl 1 (cl l), Obj.live .norm 1 [[.i (k : Int)]], Obj.rsv])[mid.length]? = _
    rw [List.getElem?_append_right (Nat.le_refl _)]; simp
  · show (mid ++ [Obj.live fl 1 (cl l), Obj.live .norm 1 [[.i (k : Int)]], Obj.rsv])[mid.length + 1]? = _
    rw [List.getElem?_append_right (by omega)]; simp
  · show (mid ++ [Obj.live fl 1 (cl l), Obj.live .norm 1 [[.i (k : Int)]], Obj.rsv])[mid.length + 2]? = _
    rw [List.getElem?_append_right (by omega)]; simp
  refine WD_nil ⟨?_, ?_⟩
  · have n1 : (4 : Nat) ≠ mid.length + 6 := by omega
    have n2 : (4 : Nat) ≠ mid.length + 6 + 1 := by omega
    have n3 : (4 : Nat) ≠ mid.length + 5 := by omega
    simp [pairsDisj, disj, noneOf]
  · have hfin : ((HH s fw (.ro []) (mid ++ [Obj.live fl 1 (cl l), .live .norm 1 [[.i (k : Int)]], .rsv])).set (mid.length + 5) (.live fl2 1 (cl l))).set (mid.length + 6 + 1) (.live .ch 1 (cl l ++ [[.i (k : Int)]])) =
        HH s fw (.ro []) (mid ++ [.live fl2 1 (cl l), .live .norm 1 [[.i (k : Int)]]]) ++ [.live .ch 1 (cl (l ++ [k]))] := by
      show HH s fw (.ro []) (((mid ++ [Obj.live fl 1 (cl l), .live .norm 1 [[.i (k : Int)]], .rsv]).set mid.length (.live fl2 1 (cl l))).set (mid.length + 2) (.live .ch 1 (cl l ++ [[.i (k : Int)]]))) = HH s fw (.ro []) (mid ++ [.live fl2 1 (cl l), .live .norm 1 [[.i (k : Int)]]] ++ [.live .ch 1 (cl (l ++ [k]))])
      congr 1
      rw [List.set_append_right _ _ (Nat.le_refl _), List.set_append_right _ _ (by omega), ints_app]
      simp
    rw [hfin]
    subst hT3
    exact hk

/-- what is left of the steps that may be next -/
def rest (s : SSequence) (fw d : Nat) (l : List Nat) (k : Nat) : Option (List Nat) :=
  ((List.range' k (s.Steps.length - k)).takeWhile fun k => alone s (lst l) (k - lst l)).findSome? fun k => walkP s fw d (l ++ [k])
theorem rest_end {s : SSequence} {fw d : Nat} {l : List Nat} {k : Nat} (h : ¬ k < s.Steps.length) : rest s fw d l k = none := by
  unfold rest
  rw [show s.Steps.length - k = 0 by omega]; rfl
theorem rest_off {s : SSequence} {fw d : Nat} {l : List Nat} {k : Nat} (h : k < s.Steps.length) (ha : alone s (lst l) (k - lst l) = false) : rest s fw d l k = none := by
  unfold rest
  rw [show s.Steps.length - k = (s.Steps.length - (k + 1)) + 1 by omega, List.range'_succ, List.takeWhile_cons, if_neg (by rw [ha]; simp)]; rfl
theorem rest_on {s : SSequence} {fw d : Nat} {l : List Nat} {k : Nat} (h : k < s.Steps.length) (ha : alone s (lst l) (k - lst l) = true) : rest s fw d l k = (match walkP s fw d (l ++ [k]) with | some y => some y | none => rest s fw d l (k + 1)) := by
  unfold rest
  rw [show s.Steps.length - k = (s.Steps.length - (k + 1)) + 1 by omega, List.range'_succ, List.takeWhile_cons, if_pos ha, List.findSome?_cons]
  cases walkP s fw d (l ++ [k]) <;> rfl

theorem walk41 {s : SSequence} (hr : Right s) {fw : Nat} (hfw : fw ≤ s.Steps.length) : ∀ (d : Nat) (l : List Nat) (mid : List Obj) (fl : Fl) (K : AV → List Obj → Prop), Pre s l → l.length + d = fw → (fl = .norm ∨ fl = .ch) → (∀ n, 5 ≤ n → objsBel n mid = true) →
    (walkP s fw d l = none → K (.bool false) (HH s fw (.ro []) mid ++ [.live fl 1 (cl l)])) →
    (∀ y H', walkP s fw d l = some y → Found y H' → K (.bool true) H') →
    WC E0 hp false 41 (.own (mid.length + 5) l.length 0 l.length :: cap41) (HH s fw (.ro []) mid ++ [.live fl 1 (cl l)]) K := by
  intro d
  induction d using Nat.strongRecOn with
  | _ d ih =>
  intro l mid fl K hpr hld hfl hmid hnone hsome
  have hpos : 0 < l.length := List.length_pos_iff.2 hpr.ne
  have hn := hr.n64
  have hn0 := hr.n0
  have hlt : lst l < s.Steps.length := by rw [lst_get hpr.ne]; exact hpr.lt _ (List.getElem_mem _)
  have hhl : hd l ≤ lst l := by rw [hd_get hpr.ne, lst_get hpr.ne]; exact hpr.mono _ _ (by omega) (by omega)
  obtain ⟨fl1, fl2, f1, f2, f3, f4, f5⟩ : ∃ fl1 fl2 : Fl, fl.sh = fl1 ∧ fl1.grows = false ∧ fl1.forked = some fl2 ∧ fl2.res = fl ∧ fl ≠ .nil := by
    rcases hfl with rfl | rfl
    · exact ⟨.wf, .sus, rfl, rfl, rfl, rfl, by simp⟩
    · exact ⟨.wch, .sch, rfl, rfl, rfl, rfl, by simp⟩
  have hHl : (HH s fw (.ro []) mid ++ [Obj.live fl 1 (cl l)])[mid.length + 5]? = some (.live fl 1 (cl l)) := by
    rw [List.getElem?_append_right (by rw [HH_len]; exact Nat.le_refl _), HH_len, Nat.sub_self]; rfl
  have hlen : (HH s fw (.ro []) mid ++ [Obj.live fl 1 (cl l)]).length = mid.length + 6 := by simp [HH_len]
  have i1 := idx_last hpr (by omega)
  have i0 := idx_hd hpr
  have e42 : m42 s (lst l : Int) (addI .i64 (hd l : Int) (s.Steps.length : Int)) = some (need s s.Steps.length (lst l) (hd l + s.Steps.length) : Int) := by
    rw [show addI .i64 (hd l : Int) (s.Steps.length : Int) = ((hd l + s.Steps.length : Nat) : Int) by rw [addI_eq (by omega) (by omega)]; omega]
    exact m42_eq hr _ _ (by omega) (by omega) (by omega)
  have hnd := need_sz s s.Steps.length (lst l) (hd l + s.Steps.length)
  refine WC_inl fn41 (.inl rfl) rfl (by decide) ?_
  rw [hlen]
  suffices h : W E0 hp _ (mid.length + 6) (fun s' => ∃ l', resultsT [.inl 7] s' = some l' ∧ K (oneOf l') s'.H) (fun _ _ => False) (fun s' => ∃ l', resultsT [.inl 7] s' = some l' ∧ K (oneOf l') s'.H) _ from WP.mono h (fun e s' q => by cases e <;> exact q)
  refine W_seq ?_
  refine W_gh ?_
  refine W_reg ?_
  refine O_p 1 ?_
  refine O_nil ?_
  refine Gh_e ⟨⟨62, [(0, .own (mid.length + 5) l.length 0 l.length), (1, .po 0 0), (2, .po 1 0), (3, .po 2 0), (4, .po 3 0), (5, .po 4 0)]⟩, HH s fw (.ro []) mid ++ [.live fl 1 (cl l)]⟩ ?_
  refine W_seq ?_
  refine W_gh ?_
  refine W_reg ?_
  refine O_p 4 ?_
  refine O_iadO (id := mid.length + 5) (nl := fl) (l := ints l) (kd := .i64) (i := subI .i64 (l.length : Int) 1) (f := some) cI_i64 (by rw [i1]; rfl) (ints_len l) (by kernel_rfl) (by kernel_rfl) hHl (by kernel_rfl) (fun v e1 e2 => ?_)
  obtain rfl : v = (lst l : Int) := by rw [i1] at e1; exact (Option.some.inj e1).symm
  refine O_ldO (id := mid.length + 5) (nl := fl) (l := ints l) (sz := 1) (o := 0) cI_i64 e1 (ints_len l) (by kernel_rfl) (by kernel_rfl) hHl (w := .i (lst l : Int)) (by kernel_rfl) ?_
  refine O_p 1 ?_
  refine O_nil ?_
  refine Gh_e ⟨⟨62, [(0, .own (mid.length + 5) l.length 0 l.length), (1, .po 0 0), (2, .po 1 0), (3, .po 2 0), (4, .po 3 0), (5, .po 4 0), (8, .i (lst l : Int))]⟩, HH s fw (.ro []) mid ++ [.live fl 1 (cl l)]⟩ ?_
  refine W_seq ?_
  refine W_seq ?_
  refine W_gh ?_
  refine W_draw ?_
  refine O_p 6 ?_
  refine O_iadO (id := mid.length + 5) (nl := fl) (l := ints l) (kd := .i64) (i := 0) (f := some) cI_i64 (by rw [i0]; rfl) (ints_len l) (by kernel_rfl) (by kernel_rfl) hHl (by kernel_rfl) (fun v e3 e4 => ?_)
  obtain rfl : v = (hd l : Int) := by rw [i0] at e3; exact (Option.some.inj e3).symm
  refine O_ldO (id := mid.length + 5) (nl := fl) (l := ints l) (sz := 1) (o := 0) cI_i64 e3 (ints_len l) (by kernel_rfl) (by kernel_rfl) hHl (w := .i (hd l : Int)) (by kernel_rfl) ?_
  refine O_p 2 ?_
  refine O_call (fun v => .i v) (f := some) (show (m42 s (lst l : Int) (addI .i64 (hd l : Int) (s.Steps.length : Int))).bind some = some (need s s.Steps.length (lst l) (hd l + s.Steps.length) : Int) by rw [e42]; rfl) (.inr rfl) (ys := [.agg (cSSequence s), .i (lst l : Int), .i (addI .i64 (hd l : Int) (s.Steps.length : Int))]) (fun _ e => p42 _ _ _ _ e) (by kernel_rfl) (by kernel_rfl) (bels_cons (okSSequence.bel _) (bels_cons rfl (bels_cons rfl rfl))) (fun v e5 e6 => ?_)
  obtain rfl : v = (need s s.Steps.length (lst l) (hd l + s.Steps.length) : Int) := by rw [e42] at e5; exact (Option.some.inj e5).symm
  refine O_p 3 ?_
  refine O_nil ?_
  refine Gh_e ⟨⟨62, [(0, .own (mid.length + 5) l.length 0 l.length), (1, .po 0 0), (2, .po 1 0), (3, .po 2 0), (4, .po 3 0), (5, .po 4 0), (8, .i (lst l : Int)), (31, .bool (decide (addI .i64 (subI .i64 (l.length : Int) 1) (need s s.Steps.length (lst l) (hd l + s.Steps.length) : Int) > (fw : Int))))]⟩, HH s fw (.ro []) mid ++ [.live fl 1 (cl l)]⟩ ?_
  have hdec : decide (addI .i64 (subI .i64 (l.length : Int) 1) (need s s.Steps.length (lst l) (hd l + s.Steps.length) : Int) > (fw : Int)) = decide (l.length - 1 + need s s.Steps.length (lst l) (hd l + s.Steps.length) > fw) := by
    rw [sub_nat hpos (by omega), addI_eq (by omega) (by omega)]
    by_cases hc : l.length - 1 + need s s.Steps.length (lst l) (hd l + s.Steps.length) > fw
    · rw [decide_eq_true hc, decide_eq_true (by omega)]
    · rw [decide_eq_false hc, decide_eq_false (by omega)]
  rw [hdec]
  refine W_gh ?_
  refine W_cond (c := decide (l.length - 1 + need s s.Steps.length (lst l) (hd l + s.Steps.length) > fw)) (by kernel_rfl) (fun c => ?_) (fun c => ?_)
  · have c' := of_decide_eq_true c
    refine W_seq ?_
    refine W_reg ?_
    refine O_p 1 ?_
    refine O_nil ?_
    refine W_ret ?_
    exact ⟨[.bool false], by kernel_rfl, hnone (by rw [walkP_eq, if_pos c'])⟩
  have c' := of_decide_eq_false c
  refine W_skip ?_
  refine Gh_e ⟨⟨62, [(0, .own (mid.length + 5) l.length 0 l.length), (1, .po 0 0), (2, .po 1 0), (3, .po 2 0), (4, .po 3 0), (5, .po 4 0), (8, .i (lst l : Int))]⟩, HH s fw (.ro []) mid ++ [.live fl 1 (cl l)]⟩ ?_
  refine W_seq ?_
  refine W_seq ?_
  refine W_gh ?_
  refine W_reg ?_
  refine O_p 4 ?_
  refine O_nil ?_
  refine Gh_e ⟨⟨62, [(0, .own (mid.length + 5) l.length 0 l.length), (1, .po 0 0), (2, .po 1 0), (4, .po 3 0), (5, .po 4 0), (8, .i (lst l : Int)), (35, .bool ((l.length : Int) == (fw : Int)))]⟩, HH s fw (.ro []) mid ++ [.live fl 1 (cl l)]⟩ ?_
  refine W_gh ?_
  refine W_cond (c := ((l.length : Int) == (fw : Int))) (by kernel_rfl) (fun c => ?_) (fun c => ?_)
  · have c2 : l.length = fw := by simp at c; omega
    refine W_seq ?_
    refine W_gh ?_
    refine W_reg ?_
    refine O_p 1 ?_
    refine (WO_do rfl).2 (WO_call.2 (wc43 hHl f5 (by omega) hlen ?_))
    refine O_p 1 ?_
    refine O_nil ?_
    refine Gh_e ⟨⟨62, [(1, .po 0 0), (2, .po 1 0), (5, .po 4 0), (8, .i (lst l : Int)), (35, .bool ((l.length : Int) == (fw : Int)))]⟩, HH s fw (.own (mid.length + 6) l.length 0 l.length) mid ++ [.live fl 1 (cl l)] ++ [.live .norm 1 (cl l)]⟩ ?_
    refine W_seq ?_
    refine W_reg ?_
    refine O_p 1 ?_
    refine O_nil ?_
    refine W_ret ?_
    refine ⟨[.bool true], by kernel_rfl, hsome l _ (by rw [walkP_eq, if_neg c', if_pos c2]) ⟨mid.length + 6, .norm, .norm, rfl, ?_⟩⟩
    show (HH s fw (.own (mid.length + 6) l.length 0 l.length) mid ++ [Obj.live fl 1 (cl l)] ++ [Obj.live .norm 1 (cl l)])[mid.length + 6]? = _
    rw [List.getElem?_append_right (by simp [HH_len])]
    simp [HH_len]
  have c2 : ¬ l.length = fw := by intro hc; rw [hc] at c; simp at c
  obtain ⟨d', rfl⟩ : ∃ d', d = d' + 1 := ⟨d - 1, by omega⟩
  have hwalk : walkP s fw (d' + 1) l = rest s fw d' l (lst l + 1) := by rw [walkP_eq, if_neg c', if_neg c2]; rfl
  rw [hwalk] at hnone hsome
  refine W_skip ?_
  refine Gh_e ⟨⟨62, [(0, .own (mid.length + 5) l.length 0 l.length), (1, .po 0 0), (2, .po 1 0), (5, .po 4 0), (8, .i (lst l : Int))]⟩, HH s fw (.ro []) mid ++ [.live fl 1 (cl l)]⟩ ?_
  refine W_seq ?_
  refine W_seq ?_
  refine W_gh ?_
  refine W_reg ?_
  refine O_p 3 ?_
  refine O_nil ?_
  refine Gh_e ⟨⟨62, [(0, .own (mid.length + 5) l.length 0 l.length), (1, .po 0 0), (2, .po 1 0), (5, .po 4 0), (8, .i (lst l : Int)), (9, .i (addI .i64 (lst l : Int) 1))]⟩, HH s fw (.ro []) mid ++ [.live fl 1 (cl l)]⟩ ?_
  rw [addI_nat (k := lst l) (by omega)]
  refine W_gh (W_block ?_)
  refine W_lp (fun s' => ∃ k, s' = ⟨⟨62, [(0, .own (mid.length + 5) l.length 0 l.length), (1, .po 0 0), (2, .po 1 0), (5, .po 4 0), (8, .i (lst l : Int)), (9, .i ((k : Nat) : Int))]⟩, HH s fw (.ro []) mid ++ [.live fl 1 (cl l)]⟩ ∧ lst l < k ∧ k ≤ s.Steps.length ∧ rest s fw d' l (lst l + 1) = rest s fw d' l k)
    (fun s' => match s'.tmps.get 9 with | .int _ k => s.Steps.length - k.toNat | _ => 0) ⟨lst l + 1, rfl, by omega, by omega, rfl⟩ ?_
  rintro s' ⟨k, rfl, hk1, hk2, hrest⟩
  rw [hrest] at hnone hsome
  refine W_gh ?_
  refine W_seq ?_
  refine W_seq ?_
  refine W_gh ?_
  refine W_reg ?_
  refine O_p 3 ?_
  refine O_nil ?_
  refine Gh_e ⟨⟨62, [(0, .own (mid.length + 5) l.length 0 l.length), (1, .po 0 0), (2, .po 1 0), (5, .po 4 0), (8, .i (lst l : Int)), (9, .i (k : Int)), (42, .bool (decide ((k : Int) < (s.Steps.length : Int))))]⟩, HH s fw (.ro []) mid ++ [.live fl 1 (cl l)]⟩ ?_
  refine W_gh ?_
  -- behind the loop nothing is found
  have hout : rest s fw d' l k = none → ∀ t7 : List (Nat × AV), (T.kills [0, 1, 2, 5, 7, 8, 9, 11, 42, 55, 61] ⟨62, t7⟩ = ⟨62, []⟩) → Gh (mid.length + 6) [.kill [0, 1, 2, 5, 7, 8, 9, 11, 42, 55, 61], .trunc 0] ⟨⟨62, t7⟩, HH s fw (.ro []) mid ++ [.live fl 1 (cl l)]⟩ (fun s' => W E0 hp (.seq (.reg [L18.o 7 (.mov (.c (.bool .false)))]) .ret) (mid.length + 6) (fun s' => ∃ l', resultsT [.inl 7] s' = some l' ∧ K (oneOf l') s'.H) (fun _ _ => False) (fun s' => ∃ l', resultsT [.inl 7] s' = some l' ∧ K (oneOf l') s'.H) s') := by
    intro hr0 t7 ht7
    refine Gh_one (s1 := ⟨⟨62, []⟩, HH s fw (.ro []) mid ++ [.live fl 1 (cl l)]⟩) (by simp only [ghost1T, ht7]) ?_
    refine Gh_trunc0 (by rw [← Bool.not_eq_true, Nat.blt_eq, hlen]; omega) ?_
    refine Gh_nil ?_
    refine W_seq ?_
    refine W_reg ?_
    refine O_p 1 ?_
    refine O_nil ?_
    refine W_ret ?_
    exact ⟨[.bool false], by kernel_rfl, hnone hr0⟩
  refine W_cond (c := decide ((k : Int) < (s.Steps.length : Int))) (by kernel_rfl) (fun c => ?_) (fun c => ?_)
  case refine_2 =>
    have c3 := of_decide_eq_false c
    refine W_exit ?_
    refine X_hit ?_
    exact hout (rest_end (by omega)) _ rfl
  have c3 : k < s.Steps.length := by have := of_decide_eq_true c; omega
  refine W_skip ?_
  refine Gh_e ⟨⟨62, [(0, .own (mid.length + 5) l.length 0 l.length), (1, .po 0 0), (2, .po 1 0), (5, .po 4 0), (8, .i (lst l : Int)), (9, .i (k : Int))]⟩, HH s fw (.ro []) mid ++ [.live fl 1 (cl l)]⟩ ?_
  refine W_seq ?_
  refine W_gh ?_
  refine W_block ?_
  refine W_seq ?_
  refine W_seq ?_
  refine W_gh ?_
  refine W_reg ?_
  refine O_p 5 ?_
  obtain ⟨m, e44, _⟩ := m44_eq hr (lst l) (k - lst l) (by omega) (by omega)
  have esub : subI .i64 (k : Int) (lst l : Int) = ((k - lst l : Nat) : Int) := by rw [subI_eq (by omega) (by omega)]; omega
  rw [← esub] at e44
  refine O_call (fun v => .tup [.int .u64 v.1, .bool v.2]) (f := some) (show (m44 s (lst l : Int) (subI .i64 (k : Int) (lst l : Int))).bind some = some (m, alone s (lst l) (k - lst l)) by rw [e44]; rfl) (.inr rfl) (ys := [.agg (cSSequence s), .i (lst l : Int), .i (subI .i64 (k : Int) (lst l : Int))]) (fun _ e => p44 _ _ _ _ e) (by kernel_rfl) (by kernel_rfl) (bels_cons (okSSequence.bel _) (bels_cons rfl (bels_cons rfl rfl))) (fun v e7 e8 => ?_)
  obtain rfl : v = (m, alone s (lst l) (k - lst l)) := by rw [e44] at e7; exact (Option.some.inj e7).symm
  refine O_p 5 ?_
  refine O_nil ?_
  refine Gh_e ⟨⟨62, [(0, .own (mid.length + 5) l.length 0 l.length), (1, .po 0 0), (2, .po 1 0), (5, .po 4 0), (8, .i (lst l : Int)), (9, .i (k : Int)), (11, .bool (alone s (lst l) (k - lst l)))]⟩, HH s fw (.ro []) mid ++ [.live fl 1 (cl l)]⟩ ?_
  refine W_seq ?_
  refine W_gh ?_
  refine W_reg ?_
  refine O_p 2 ?_
  refine O_nil ?_
  refine Gh_e ⟨⟨62, [(0, .own (mid.length + 5) l.length 0 l.length), (1, .po 0 0), (2, .po 1 0), (5, .po 4 0), (8, .i (lst l : Int)), (9, .i (k : Int)), (55, .bool (!alone s (lst l) (k - lst l)))]⟩, HH s fw (.ro []) mid ++ [.live fl 1 (cl l)]⟩ ?_
  refine W_gh ?_
  refine W_cond (c := !alone s (lst l) (k - lst l)) (by kernel_rfl) (fun c => ?_) (fun c => ?_)
  · have c4 : alone s (lst l) (k - lst l) = false := by simpa using c
    refine W_exit ?_
    refine X_miss (by decide) ?_
    refine X_hit ?_
    exact hout (rest_off c3 c4) _ rfl
  have c4 : alone s (lst l) (k - lst l) = true := by simpa using c
  refine W_skip ?_
  refine Gh_e ⟨⟨62, [(0, .own (mid.length + 5) l.length 0 l.length), (1, .po 0 0), (2, .po 1 0), (5, .po 4 0), (8, .i (lst l : Int)), (9, .i (k : Int))]⟩, HH s fw (.ro []) mid ++ [.live fl 1 (cl l)]⟩ ?_
  refine W_seq ?_
  refine W_pre ?_
  obtain ⟨x0, es0, ecl⟩ : ∃ x0 es0, cl l = x0 :: es0 := by
    cases hcl : cl l with
    | nil => have := cl_len l; rw [hcl] at this; simp at this; omega
    | cons x r => exact ⟨x, r, rfl⟩
  have hshg := @Gh_sh (mid.length + 6) 0 l.length 0 l.length [] ⟨62, [(0, .own (mid.length + 5) l.length 0 l.length), (1, .po 0 0), (2, .po 1 0), (5, .po 4 0), (8, .i (lst l : Int)), (9, .i (k : Int))]⟩ (HH s fw (.ro []) mid) fl 1 x0 es0
  rw [← ecl, f1] at hshg
  refine hshg rfl ?_
  refine Gh_nil ?_
  refine W_gh ?_
  refine W_seq ?_
  refine region41 rfl rfl rfl (show 60 < 62 by decide) hpos (by omega) f2 f3 ?_
  refine W_reg ?_
  refine (WO_do rfl).2 ((WO_callv (f := 41) (cap := cap41) rfl).2 ?_)
  have hlen' : (mid ++ [Obj.live fl2 1 (cl l), .live .norm 1 [[.i (k : Int)]]]).length + 5 = mid.length + 7 := by simp
  have hsz : (l ++ [k]).length = l.length + 1 := by simp
  have hih := ih d' (by omega) (l ++ [k]) (mid ++ [Obj.live fl2 1 (cl l), .live .norm 1 [[.i (k : Int)]]]) .ch
  rw [hlen', hsz] at hih
  refine hih _ (hpr.app hk1 c3 c4) (by omega) (.inr rfl) ?_ ?_ ?_
  · intro n hn5
    refine objsBel_app (hmid n hn5) (ob_list okI_i64.bel ?_)
    exact ob_box rfl rfl
  · -- not found: the memory is as before
    intro hw
    refine O_nil ?_
    refine Gh_one (s1 := ⟨⟨62, [(0, .own (mid.length + 5) l.length 0 l.length), (1, .po 0 0), (2, .po 1 0), (5, .po 4 0), (8, .i (lst l : Int)), (9, .i (k : Int)), (61, .bool false)]⟩, HH s fw (.ro []) (mid ++ [Obj.live fl2 1 (cl l), .live .norm 1 [[.i (k : Int)]]]) ++ [.live .ch 1 (cl (l ++ [k]))]⟩) (by kernel_rfl) ?_
    refine Gh_trunc (H1 := HH s fw (.ro []) mid ++ [.live fl2 1 (cl l)]) (s1 := ⟨⟨62, [(0, .own (mid.length + 5) l.length 0 l.length), (1, .po 0 0), (2, .po 1 0), (5, .po 4 0), (8, .i (lst l : Int)), (9, .i (k : Int)), (61, .bool false)]⟩, HH s fw (.ro []) mid ++ [.live fl2 1 (cl l)]⟩) ?_ ?_ ?_ ?_ rfl ?_
    · rw [Nat.blt_eq]; simp [HH_len]
    · refine tb_ref (by simp [AV.bel]) (tb_ref (by simp [AV.bel]) (tb_ref (by simp [AV.bel]) (tb_ref (by simp [AV.bel]) (tb_free rfl (tb_free rfl (tb_free rfl rfl))))))
    · show List.take (mid.length + 6) ((HH s fw (.ro []) mid ++ [Obj.live fl2 1 (cl l), .live .norm 1 [[.i (k : Int)]]]) ++ [.live .ch 1 (cl (l ++ [k]))]) = _
      rw [List.append_assoc]
      show List.take (mid.length + 6) (HH s fw (.ro []) mid ++ ([Obj.live fl2 1 (cl l)] ++ [.live .norm 1 [[.i (k : Int)]], .live .ch 1 (cl (l ++ [k]))])) = _
      rw [← List.append_assoc]
      exact List.take_left' (by simp [HH_len])
    · exact objsBel_app (HH_bel (by omega) (hmid _ (by omega))) (ob_list okI_i64.bel rfl)
    refine Gh_res (A := HH s fw (.ro []) mid) (e := l.length) (o := 0) (l := l.length) rfl ?_
    rw [f4]
    refine Gh_nil ?_
    refine W_gh ?_
    refine W_cond (c := false) (by kernel_rfl) (fun c => by simp at c) (fun _ => ?_)
    refine W_skip ?_
    refine Gh_e ⟨⟨62, [(0, .own (mid.length + 5) l.length 0 l.length), (1, .po 0 0), (2, .po 1 0), (5, .po 4 0), (8, .i (lst l : Int)), (9, .i (k : Int))]⟩, HH s fw (.ro []) mid ++ [.live fl 1 (cl l)]⟩ ?_
    refine Gh_one (s1 := ⟨⟨62, [(0, .own (mid.length + 5) l.length 0 l.length), (1, .po 0 0), (2, .po 1 0), (5, .po 4 0), (8, .i (lst l : Int)), (9, .i (k : Int))]⟩, HH s fw (.ro []) mid ++ [.live fl 1 (cl l)]⟩) (by kernel_rfl) ?_
    refine Gh_trunc0 (by rw [← Bool.not_eq_true, Nat.blt_eq, hlen]; omega) ?_
    refine Gh_nil ?_
    refine W_gh ?_
    refine W_reg ?_
    refine O_p 3 ?_
    refine O_nil ?_
    refine Gh_e ⟨⟨62, [(0, .own (mid.length + 5) l.length 0 l.length), (1, .po 0 0), (2, .po 1 0), (5, .po 4 0), (8, .i (lst l : Int)), (9, .i (addI .i64 (k : Int) 1))]⟩, HH s fw (.ro []) mid ++ [.live fl 1 (cl l)]⟩ ?_
    refine Gh_one (s1 := ⟨⟨62, [(0, .own (mid.length + 5) l.length 0 l.length), (1, .po 0 0), (2, .po 1 0), (5, .po 4 0), (8, .i (lst l : Int)), (9, .i (addI .i64 (k : Int) 1))]⟩, HH s fw (.ro []) mid ++ [.live fl 1 (cl l)]⟩) (by kernel_rfl) ?_
    refine Gh_trunc0 (by rw [← Bool.not_eq_true, Nat.blt_eq, hlen]; omega) ?_
    refine Gh_nil ?_
    rw [addI_nat (k := k) (by omega)]
    refine ⟨⟨k + 1, rfl, by omega, by omega, ?_⟩, ?_⟩
    · rw [hrest, rest_on c3 c4, hw]
    · show s.Steps.length - (((k + 1 : Nat) : Int)).toNat < s.Steps.length - ((k : Int)).toNat
      omega
  · -- found
    intro y H' hw hF
    refine O_nil ?_
    refine Gh_one (s1 := ⟨⟨62, [(0, .own (mid.length + 5) l.length 0 l.length), (1, .po 0 0), (2, .po 1 0), (5, .po 4 0), (8, .i (lst l : Int)), (9, .i (k : Int)), (61, .bool true)]⟩, H'⟩) (by kernel_rfl) ?_
    refine Gh_fT (by omega) hF (fun H1 hF1 => ?_)
    refine Gh_fR (id := mid.length + 5) (e := l.length) (o := 0) (l := l.length) rfl hF1 (fun H2 hF2 => ?_)
    refine Gh_nil ?_
    refine W_gh ?_
    refine W_cond (c := true) (by kernel_rfl) (fun _ => ?_) (fun c => by simp at c)
    refine W_seq ?_
    refine W_reg ?_
    refine O_p 1 ?_
    refine O_nil ?_
    refine W_ret ?_
    exact ⟨[.bool true], by kernel_rfl, hsome y _ (by rw [rest_on c3 c4, hw]) hF2⟩
end G18

namespace G18
open Go hiding Obj mark
open Go.Pl Go.Am Go.Am.As
set_option linter.unusedVariables false

theorem p19 (a0 : SSequence) (r : ((List Int) × Int)) (h : m19 a0 = some r) : Pt E0 hp 19 [.agg (cSSequence a0)] (.tup [.ro (r.1.map cI_i64), .i r.2]) := by
  obtain ⟨r', hr', hbad, hgood⟩ := m19_eq a0
  rw [h] at hr'
  injection hr' with hr'
  subst hr'
  have e35 : m35 a0 = some (chk a0) := m35_eq a0
  refine Pt_W (fn19) rfl (by decide) ?_
  refine W_seq ?_
  refine W_gh ?_
  refine W_reg ?_
  refine O_p 3 ?_
  refine O_nil ?_
  refine Gh_e ⟨⟨42, [(1, .po 0 0)]⟩, [.lv 2 [.i a0.Actuators, .ro (a0.Steps.map cSStep)]]⟩ ?_
  refine W_seq ?_
  refine W_seq ?_
  refine W_gh ?_
  refine W_reg ?_
  refine O_p 1 ?_
  refine O_call (fun v => .i v) (f := some) (show (m35 a0).bind some = some (chk a0) by rw [e35]; rfl) (.inr rfl) (ys := [.agg (cSSequence a0)]) (fun _ e => p35 _ _ e) (by kernel_rfl) (by kernel_rfl) (bels_cons (okSSequence.bel _) rfl) (fun v e1 e2 => ?_)
  obtain rfl : v = chk a0 := by rw [e35] at e1; exact (Option.some.inj e1).symm
  refine O_p 1 ?_
  refine O_nil ?_
  refine Gh_e ⟨⟨42, [(1, .po 0 0), (4, .i (chk a0))]⟩, [.lv 2 [.i a0.Actuators, .ro (a0.Steps.map cSStep)]]⟩ ?_
  refine W_seq ?_
  refine W_gh ?_
  refine W_reg ?_
  refine O_p 2 ?_
  refine O_nil ?_
  refine Gh_e ⟨⟨42, [(1, .po 0 0), (4, .i (chk a0)), (14, .bool (chk a0 != 0))]⟩, [.lv 2 [.i a0.Actuators, .ro (a0.Steps.map cSStep)]]⟩ ?_
  refine W_gh ?_
  refine W_cond (c := (chk a0 != 0)) (by kernel_rfl) (fun c => ?_) (fun c => ?_)
  · obtain rfl := hbad (by simpa using c)
    refine W_seq ?_
    refine W_gh ?_
    refine W_reg ?_
    refine O_p 3 ?_
    refine O_nil ?_
    refine Gh_e ⟨⟨42, [(1, .po 0 0), (2, .ro (([] : List Int).map cI_i64)), (3, .i (chk a0)), (14, .bool (chk a0 != 0))]⟩, [.lv 2 [.i a0.Actuators, .ro (a0.Steps.map cSStep)]]⟩ ?_
    refine W_ret ?_
    exact Fin_free (l := [.ro (([] : List Int).map cI_i64), .i (chk a0)]) (by kernel_rfl) (by kernel_rfl) (bels_cons (ro_bel okI_i64.bel _) (bels_cons rfl rfl))
  have h0 : chk a0 = 0 := by simpa using c
  obtain ⟨y, hy, rfl⟩ := hgood h0
  have hr := chk_right h0
  have hn := hr.n64
  have hn0 := hr.n0
  refine W_skip ?_
  refine Gh_e ⟨⟨42, [(1, .po 0 0)]⟩, [.lv 2 [.i a0.Actuators, .ro (a0.Steps.map cSStep)]]⟩ ?_
  refine W_seq ?_
  refine W_gh ?_
  refine W_reg ?_
  refine O_p 2 ?_
  refine O_len (l := a0.Steps) cSStep (by kernel_rfl) (by kernel_rfl) ?_
  refine O_p 2 ?_
  refine O_nil ?_
  refine Gh_e ⟨⟨42, [(1, .po 0 0), (5, .po 1 0)]⟩, [.lv 2 [.i a0.Actuators, .ro (a0.Steps.map cSStep)], .lv 1 [.i (a0.Steps.length : Int)]]⟩ ?_
  refine W_seq ?_
  refine W_gh ?_
  refine W_reg ?_
  refine O_p 3 ?_
  refine O_nil ?_
  refine Gh_e ⟨⟨42, [(1, .po 0 0), (5, .po 1 0), (6, .po 2 0)]⟩, [.lv 2 [.i a0.Actuators, .ro (a0.Steps.map cSStep)], .lv 1 [.i (a0.Steps.length : Int)], .lv 1 [.i (a0.Steps.length : Int)]]⟩ ?_
  refine W_seq ?_
  refine W_seq ?_
  refine W_reg ?_
  refine O_p 2 ?_
  refine O_nil ?_
  refine W_gh (W_block ?_)
  refine W_lp (fun s' => ∃ k : Nat, s' = ⟨⟨42, [(1, .po 0 0), (5, .po 1 0), (6, .po 2 0), (20, .i (a0.Steps.length : Int)), (21, .i (k : Int))]⟩, [.lv 2 [.i a0.Actuators, .ro (a0.Steps.map cSStep)], .lv 1 [.i (a0.Steps.length : Int)], .lv 1 [.i (fwk a0 k : Int)]]⟩ ∧ k ≤ a0.Steps.length)
    (fun s' => match s'.tmps.get 21 with | .int _ k => a0.Steps.length - k.toNat | _ => 0) ⟨0, rfl, by omega⟩ ?_
  rintro s' ⟨k, rfl, hk⟩
  refine W_gh ?_
  refine W_seq ?_
  refine W_reg ?_
  refine O_p 1 ?_
  refine O_nil ?_
  refine W_at (s1 := ⟨⟨42, [(1, .po 0 0), (5, .po 1 0), (6, .po 2 0), (20, .i (a0.Steps.length : Int)), (21, .i (k : Int)), (22, .bool (decide ((k : Int) < (a0.Steps.length : Int))))]⟩, [.lv 2 [.i a0.Actuators, .ro (a0.Steps.map cSStep)], .lv 1 [.i (a0.Steps.length : Int)], .lv 1 [.i (fwk a0 k : Int)]]⟩) (by kernel_rfl) ?_
  refine W_seq ?_
  refine W_gh ?_
  refine W_cond (c := decide ((k : Int) < (a0.Steps.length : Int))) (by kernel_rfl) (fun c => ?_) (fun c => ?_)
  · have c3 : k < a0.Steps.length := by have := of_decide_eq_true c; omega
    refine W_skip ?_
    refine Gh_e ⟨⟨42, [(1, .po 0 0), (5, .po 1 0), (6, .po 2 0), (20, .i (a0.Steps.length : Int)), (21, .i (k : Int))]⟩, [.lv 2 [.i a0.Actuators, .ro (a0.Steps.map cSStep)], .lv 1 [.i (a0.Steps.length : Int)], .lv 1 [.i (fwk a0 k : Int)]]⟩ ?_
    refine W_seq ?_
    refine W_gh ?_
    refine W_block ?_
    refine W_seq ?_
    refine W_gh ?_
    refine W_reg ?_
    refine O_p 2 ?_
    refine O_nil ?_
    refine Gh_e ⟨⟨42, [(1, .po 0 0), (5, .po 1 0), (6, .po 2 0), (7, .i (k : Int)), (20, .i (a0.Steps.length : Int)), (21, .i (k : Int))]⟩, [.lv 2 [.i a0.Actuators, .ro (a0.Steps.map cSStep)], .lv 1 [.i (a0.Steps.length : Int)], .lv 1 [.i (fwk a0 k : Int)]]⟩ ?_
    refine W_gh ?_
    refine W_draw ?_
    refine O_p 3 ?_
    have e39 := m39_eq hr k (by omega)
    refine O_call (fun v => .ro (v.map cI_i64)) (f := some) (show (m39 a0 (k : Int)).bind some = some (ints (gre a0 k a0.Steps.length).1) by rw [e39]; rfl) (.inr rfl) (ys := [.agg (cSSequence a0), .i (k : Int)]) (fun _ e => p39 _ _ _ e) (by kernel_rfl) (by kernel_rfl) (bels_cons (okSSequence.bel _) (bels_cons rfl rfl)) (fun v e3 e4 => ?_)
    obtain rfl : v = ints (gre a0 k a0.Steps.length).1 := by rw [e39] at e3; exact (Option.some.inj e3).symm
    refine O_len (l := ints (gre a0 k a0.Steps.length).1) cI_i64 (by kernel_rfl) (by kernel_rfl) ?_
    refine O_p 2 ?_
    refine O_nil ?_
    refine Gh_e ⟨⟨42, [(1, .po 0 0), (5, .po 1 0), (6, .po 2 0), (20, .i (a0.Steps.length : Int)), (21, .i (k : Int))]⟩, [.lv 2 [.i a0.Actuators, .ro (a0.Steps.map cSStep)], .lv 1 [.i (a0.Steps.length : Int)], .lv 1 [.i (if ((ints (gre a0 k a0.Steps.length).1).length : Int) < (fwk a0 k : Int) then ((ints (gre a0 k a0.Steps.length).1).length : Int) else (fwk a0 k : Int))]]⟩ ?_
    have hmin : (if ((ints (gre a0 k a0.Steps.length).1).length : Int) < (fwk a0 k : Int) then ((ints (gre a0 k a0.Steps.length).1).length : Int) else (fwk a0 k : Int)) = (fwk a0 (k + 1) : Int) := by
      rw [fwk_succ, ints_len]
      show (if (glen a0 k : Int) < (fwk a0 k : Int) then (glen a0 k : Int) else (fwk a0 k : Int)) = _
      split <;> omega
    rw [hmin]
    refine Gh_e ⟨⟨42, [(1, .po 0 0), (5, .po 1 0), (6, .po 2 0), (20, .i (a0.Steps.length : Int)), (21, .i (k : Int))]⟩, [.lv 2 [.i a0.Actuators, .ro (a0.Steps.map cSStep)], .lv 1 [.i (a0.Steps.length : Int)], .lv 1 [.i (fwk a0 (k + 1) : Int)]]⟩ ?_
    refine W_gh ?_
    refine W_reg ?_
    refine O_p 2 ?_
    refine O_nil ?_
    refine Gh_e ⟨⟨42, [(1, .po 0 0), (5, .po 1 0), (6, .po 2 0), (20, .i (a0.Steps.length : Int)), (21, .i (addI .i64 (k : Int) 1))]⟩, [.lv 2 [.i a0.Actuators, .ro (a0.Steps.map cSStep)], .lv 1 [.i (a0.Steps.length : Int)], .lv 1 [.i (fwk a0 (k + 1) : Int)]]⟩ ?_
    rw [addI_nat (k := k) (by omega)]
    refine Gh_e ⟨⟨42, [(1, .po 0 0), (5, .po 1 0), (6, .po 2 0), (20, .i (a0.Steps.length : Int)), (21, .i ((k + 1 : Nat) : Int))]⟩, [.lv 2 [.i a0.Actuators, .ro (a0.Steps.map cSStep)], .lv 1 [.i (a0.Steps.length : Int)], .lv 1 [.i (fwk a0 (k + 1) : Int)]]⟩ ?_
    refine ⟨⟨k + 1, rfl, by omega⟩, ?_⟩
    show a0.Steps.length - (((k + 1 : Nat) : Int)).toNat < a0.Steps.length - ((k : Int)).toNat
    omega
  have c3 := of_decide_eq_false c
  obtain rfl : k = a0.Steps.length := by omega
  have hfwd : fwk a0 a0.Steps.length = fw a0 := rfl
  rw [hfwd]
  refine W_exit ?_
  refine X_hit ?_
  refine Gh_e ⟨⟨42, [(1, .po 0 0), (5, .po 1 0), (6, .po 2 0)]⟩, [.lv 2 [.i a0.Actuators, .ro (a0.Steps.map cSStep)], .lv 1 [.i (a0.Steps.length : Int)], .lv 1 [.i (fw a0 : Int)]]⟩ ?_
  refine W_seq ?_
  refine W_gh ?_
  refine W_reg ?_
  refine O_p 1 ?_
  refine O_nil ?_
  refine Gh_e ⟨⟨42, [(1, .po 0 0), (5, .po 1 0), (6, .po 2 0), (8, .po 3 0)]⟩, [.lv 2 [.i a0.Actuators, .ro (a0.Steps.map cSStep)], .lv 1 [.i (a0.Steps.length : Int)], .lv 1 [.i (fw a0 : Int)], .lv 1 [.ro []]]⟩ ?_
  refine W_seq ?_
  refine W_reg ?_
  refine O_p 1 ?_
  refine O_nil ?_
  refine W_seq ?_
  refine W_gh ?_
  refine W_reg ?_
  refine O_p 2 ?_
  refine O_nil ?_
  refine Gh_e ⟨⟨42, [(5, .po 1 0), (8, .po 3 0), (9, .po 4 0)]⟩, HH a0 (fw a0) (.ro []) []⟩ ?_
  refine W_seq ?_
  refine W_seq ?_
  refine W_gh ?_
  refine W_reg ?_
  refine O_p 2 ?_
  refine O_nil ?_
  refine Gh_e ⟨⟨42, [(8, .po 3 0), (9, .po 4 0), (32, .i (a0.Steps.length : Int)), (33, .i 0)]⟩, HH a0 (fw a0) (.ro []) []⟩ ?_
  -- the last part: the ring is read
  have hfin : ∀ H', Found y H' → W E0 hp (.seq (.gh [] (.reg [L18.o 41 (.load 1 .false (.t 8)), L18.o 2 (.mov (.t 41)), L18.o 3 (.mov (.c (.int .i64 0)))]) [.kill [8, 41]]) .ret) 0 (Fin [.inl 2, .inl 3] (.tup [.ro ((ints y).map cI_i64), .i 0])) (fun _ _ => False) (Fin [.inl 2, .inl 3] (.tup [.ro ((ints y).map cI_i64), .i 0])) ⟨⟨42, [(8, .po 3 0)]⟩, H'⟩ := by
    rintro H' ⟨id, fl, fl', g1, g2⟩
    refine W_seq ?_
    refine W_gh ?_
    refine W_reg ?_
    refine O_op1 (v := .own id y.length 0 y.length) (H1 := H') (fun hc => nomatch (show Kind.read = Kind.call from hc)) rfl ?_ ?_
    · show (match loadAt H' 1 false (.po 3 0) with | some v => some (v, H') | none => none) = _
      simp only [loadAt, getLive, g1, List.length_singleton, if_true, List.getElem?_cons_zero, Am.part, Bool.false_eq_true, if_false]
    refine O_p 2 ?_
    refine O_nil ?_
    refine Gh_e ⟨⟨42, [(2, .own id y.length 0 y.length), (3, .i 0)]⟩, H'⟩ ?_
    refine W_ret ?_
    exact Fin_pk (l := [.own id y.length 0 y.length, .i 0]) (by kernel_rfl) (pk_tup (mapO_cons (pk_own okI_i64.bel g2 (ints_len y)) rfl))
  have hring : ringP a0 = (List.range' 0 (a0.Steps.length - 0)).findSome? fun f => walkP a0 (fw a0) (fw a0 - 1) [f] := by unfold ringP; rw [List.range_eq_range', Nat.sub_zero]
  refine W_gh (W_block ?_)
  refine W_lp (fun s' => ∃ k : Nat, s' = ⟨⟨42, [(8, .po 3 0), (9, .po 4 0), (32, .i (a0.Steps.length : Int)), (33, .i (k : Int))]⟩, HH a0 (fw a0) (.ro []) []⟩ ∧ k ≤ a0.Steps.length ∧ some y = (List.range' k (a0.Steps.length - k)).findSome? fun f => walkP a0 (fw a0) (fw a0 - 1) [f])
    (fun s' => match s'.tmps.get 33 with | .int _ k => a0.Steps.length - k.toNat | _ => 0) ⟨0, rfl, by omega, by rw [← hy]; exact hring⟩ ?_
  rintro s' ⟨k, rfl, hk, hres⟩
  have c3 : k < a0.Steps.length := by
    refine Classical.byContradiction fun hc => ?_
    rw [show a0.Steps.length - k = 0 by omega] at hres
    simp at hres
  refine W_gh ?_
  refine W_seq ?_
  refine W_reg ?_
  refine O_p 1 ?_
  refine O_nil ?_
  refine W_at (s1 := ⟨⟨42, [(8, .po 3 0), (9, .po 4 0), (32, .i (a0.Steps.length : Int)), (33, .i (k : Int)), (34, .bool (decide ((k : Int) < (a0.Steps.length : Int))))]⟩, HH a0 (fw a0) (.ro []) []⟩) (by kernel_rfl) ?_
  refine W_seq ?_
  refine W_gh ?_
  refine W_cond (c := decide ((k : Int) < (a0.Steps.length : Int))) (by kernel_rfl) (fun c => ?_) (fun c => by have := of_decide_eq_false c; omega)
  refine W_skip ?_
  refine Gh_e ⟨⟨42, [(8, .po 3 0), (9, .po 4 0), (32, .i (a0.Steps.length : Int)), (33, .i (k : Int))]⟩, HH a0 (fw a0) (.ro []) []⟩ ?_
  refine W_seq ?_
  refine W_gh ?_
  refine W_block ?_
  refine W_seq ?_
  refine W_gh ?_
  refine W_reg ?_
  refine O_p 2 ?_
  refine O_nil ?_
  refine Gh_e ⟨⟨42, [(8, .po 3 0), (9, .po 4 0), (10, .i (k : Int)), (32, .i (a0.Steps.length : Int)), (33, .i (k : Int))]⟩, HH a0 (fw a0) (.ro []) []⟩ ?_
  refine W_seq ?_
  refine W_gh ?_
  refine W_reg ?_
  refine O_p 3 ?_
  refine (WO_do rfl).2 ((WO_callv (f := 41) (cap := cap41) rfl).2 ?_)
  have hw := @walk41 a0 hr (fw a0) (fwk_n a0 _) (fw a0 - 1) [k] [] .norm
  have hfp := fw_pos hn0
  refine hw _ (.one c3) (by simp; omega) (.inl rfl) (fun _ _ => rfl) ?_ ?_
  · intro hnone
    refine O_nil ?_
    refine Gh_one (s1 := ⟨⟨42, [(8, .po 3 0), (9, .po 4 0), (32, .i (a0.Steps.length : Int)), (33, .i (k : Int)), (39, .bool false)]⟩, HH a0 (fw a0) (.ro []) [] ++ [.live .norm 1 (cl [k])]⟩) (by kernel_rfl) ?_
    refine Gh_trunc (H1 := HH a0 (fw a0) (.ro []) []) (s1 := ⟨⟨42, [(8, .po 3 0), (9, .po 4 0), (32, .i (a0.Steps.length : Int)), (33, .i (k : Int)), (39, .bool false)]⟩, HH a0 (fw a0) (.ro []) []⟩) (by kernel_rfl) ?_ (by kernel_rfl) (HH_bel (Nat.le_refl _) rfl) rfl ?_
    · refine tb_ref rfl (tb_ref rfl (tb_free rfl (tb_free rfl (tb_free rfl rfl))))
    refine Gh_nil ?_
    refine W_gh ?_
    refine W_cond (c := false) (by kernel_rfl) (fun c => by simp at c) (fun _ => ?_)
    refine W_skip ?_
    refine Gh_e ⟨⟨42, [(8, .po 3 0), (9, .po 4 0), (32, .i (a0.Steps.length : Int)), (33, .i (k : Int))]⟩, HH a0 (fw a0) (.ro []) []⟩ ?_
    refine Gh_one (s1 := ⟨⟨42, [(8, .po 3 0), (9, .po 4 0), (32, .i (a0.Steps.length : Int)), (33, .i (k : Int))]⟩, HH a0 (fw a0) (.ro []) []⟩) (by kernel_rfl) ?_
    refine Gh_trunc0 (by kernel_rfl) ?_
    refine Gh_nil ?_
    refine W_gh ?_
    refine W_reg ?_
    refine O_p 2 ?_
    refine O_nil ?_
    refine Gh_e ⟨⟨42, [(8, .po 3 0), (9, .po 4 0), (32, .i (a0.Steps.length : Int)), (33, .i (addI .i64 (k : Int) 1))]⟩, HH a0 (fw a0) (.ro []) []⟩ ?_
    refine Gh_one (s1 := ⟨⟨42, [(8, .po 3 0), (9, .po 4 0), (32, .i (a0.Steps.length : Int)), (33, .i (addI .i64 (k : Int) 1))]⟩, HH a0 (fw a0) (.ro []) []⟩) (by kernel_rfl) ?_
    refine Gh_trunc0 (by kernel_rfl) ?_
    refine Gh_nil ?_
    rw [addI_nat (k := k) (by omega)]
    refine ⟨⟨k + 1, rfl, by omega, ?_⟩, ?_⟩
    · rw [hres, show a0.Steps.length - k = (a0.Steps.length - (k + 1)) + 1 by omega, List.range'_succ, List.findSome?_cons, hnone]
    · show a0.Steps.length - (((k + 1 : Nat) : Int)).toNat < a0.Steps.length - ((k : Int)).toNat
      omega
  · intro y2 H' hfound hF
    have e : y2 = y := by
      rw [show a0.Steps.length - k = (a0.Steps.length - (k + 1)) + 1 by omega, List.range'_succ, List.findSome?_cons, hfound] at hres
      exact (Option.some.inj hres).symm
    subst e
    refine O_nil ?_
    refine Gh_one (s1 := ⟨⟨42, [(8, .po 3 0), (9, .po 4 0), (32, .i (a0.Steps.length : Int)), (33, .i (k : Int)), (39, .bool true)]⟩, H'⟩) (by kernel_rfl) ?_
    refine Gh_fT (by decide) hF (fun H1 hF1 => ?_)
    refine Gh_nil ?_
    refine W_gh ?_
    refine W_cond (c := true) (by kernel_rfl) (fun _ => ?_) (fun c => by simp at c)
    refine W_exit ?_
    refine X_miss (by decide) ?_
    refine X_hit ?_
    refine Gh_one (s1 := ⟨⟨42, [(8, .po 3 0)]⟩, H1⟩) (by kernel_rfl) ?_
    refine Gh_fT (by decide) hF1 (fun H2 hF2 => ?_)
    refine Gh_nil ?_
    exact hfin _ hF2
end G18
