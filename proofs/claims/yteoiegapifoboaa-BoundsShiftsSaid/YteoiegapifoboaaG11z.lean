/- The code of bounds that makes bounds computes its models. No condition. -/
import Derived.Test.YteoiegapifoboaaG11x
namespace G11
open Go hiding Obj mark
open Go.Pl Go.Am Go.Am.As
set_option linter.unusedVariables false

theorem RowV.refs {H : List Obj} {v : AV} {n : Nat} {f : Nat → Int} (h : RowV H v n f) : ∀ a ∈ Am.refs v, a < H.length := by
  rcases h with rfl | ⟨id, fl, rfl, h2⟩
  · intro a ha; cases ha
  · intro a ha
    simp only [Am.refs, List.mem_singleton] at ha
    subst ha; exact get_lt h2
theorem MatV.refs {H : List Obj} {v : AV} {n : Nat} {m : Nat → Nat → Int} (h : MatV H v n m) : ∀ a ∈ Am.refs v, a < H.length := by
  rcases h with rfl | ⟨id, fl, r, rfl, h2, h3⟩
  · intro a ha; cases ha
  · intro a ha
    simp only [Am.refs, List.mem_singleton] at ha
    subst ha; exact get_lt h2
theorem MatV.one {H : List Obj} {v : AV} {n : Nat} {m : Nat → Nat → Int} (h : MatV H v n m) : v.one = true ∧ v.wk1 = v := by
  rcases h with rfl | ⟨id, fl, r, rfl, h2, h3⟩ <;> exact ⟨rfl, rfl⟩

/-- rows that may be written -/
structure NC (L : Nat) (H : List Obj) (b n : Nat) (m : Nat → Nat → Int) (rid : Nat → Nat) (ft fr : Fl) : Prop where
  top : H[b]? = some (.live ft 1 ((List.range n).map fun i => [.own (rid i) n 0 n]))
  row : ∀ i, i < n → H[rid i]? = some (.live fr 1 ((rowL n (m i)).map cI_i64))
  lb : L ≤ b
  lr : ∀ i, i < n → L ≤ rid i
  inj : ∀ i j, i < n → j < n → rid i = rid j → i = j
  ne : ∀ i, i < n → rid i ≠ b
  ft : ft.free = true
  fr : fr.free = true
theorem NC.mat {L b n : Nat} {m : Nat → Nat → Int} {rid : Nat → Nat} {H : List Obj} {ft fr : Fl} (h : NC L H b n m rid ft fr) : MatV H (.own b n 0 n) n m :=
  .inr ⟨b, ft, fun i => .own (rid i) n 0 n, rfl, h.top, fun i hi => .inr ⟨rid i, fr, rfl, h.row i hi⟩⟩
theorem NC.ext {L b n : Nat} {m : Nat → Nat → Int} {rid : Nat → Nat} {H H' : List Obj} {ft fr : Fl} (h : NC L H b n m rid ft fr) (hf : Fr H.length H H') : NC L H' b n m rid ft fr :=
  ⟨(hf _ (get_lt h.top)).trans h.top, fun i hi => (hf _ (get_lt (h.row i hi))).trans (h.row i hi), h.lb, h.lr, h.inj, h.ne, h.ft, h.fr⟩
theorem NC.low {L L' b n : Nat} {m : Nat → Nat → Int} {rid : Nat → Nat} {H : List Obj} {ft fr : Fl} (h : NC L H b n m rid ft fr) (hL : L' ≤ L) : NC L' H b n m rid ft fr :=
  ⟨h.top, h.row, Nat.le_trans hL h.lb, fun i hi => Nat.le_trans hL (h.lr i hi), h.inj, h.ne, h.ft, h.fr⟩
theorem NC.set {L b n id : Nat} {m : Nat → Nat → Int} {rid : Nat → Nat} {H : List Obj} {o : Obj} {ft fr : Fl} (h : NC L H b n m rid ft fr) (hi : id < L) : NC L (H.set id o) b n m rid ft fr :=
  ⟨get_ne h.top (by have := h.lb; omega), fun i hi' => get_ne (h.row i hi') (by have := h.lr i hi'; omega), h.lb, h.lr, h.inj, h.ne, h.ft, h.fr⟩
theorem NC.pk {L b n d : Nat} {m : Nat → Nat → Int} {rid : Nat → Nat} {H : List Obj} {ft fr : Fl} (h : NC L H b n m rid ft fr) : pk (d + 2) H (.own b n 0 n) = some (.ro ((matL n m).map (cL cI_i64))) := by
  unfold Am.pk
  rw [if_neg (by simp [AV.refFree, AV.bel])]
  have e1 : ((List.range n).map fun i => [AV.own (rid i) n 0 n]).length = n := by simp
  have e2 : (((List.range n).map fun i => [AV.own (rid i) n 0 n]).drop 0).take n = (List.range n).map fun i => [AV.own (rid i) n 0 n] := by rw [List.drop_zero]; exact List.take_of_length_le (by simp)
  simp only [getLive, h.top, e1, if_true, e2]
  rw [mapOO_range (h := fun i => .ro ((rowL n (m i)).map cI_i64)) _ (fun i hi => pk_own okI_i64.bel (h.row i (List.mem_range.1 hi)) (by simp [rowL]))]
  simp only [roOf, matL, List.map_map]
  rfl
/-- an element is written -/
theorem NC.put {L b n i j : Nat} {m : Nat → Nat → Int} {v : Int} {rid : Nat → Nat} {H : List Obj} {ft fr : Fl} (h : NC L H b n m rid ft fr) (hi : i < n) (hj : j < n) : NC L (H.set (rid i) (.live fr 1 (((rowL n (m i)).map cI_i64).set j [.i v]))) b n (up2 m i j v) rid ft fr := by
  refine ⟨get_ne h.top (fun e => h.ne i hi e.symm), fun a ha => ?_, h.lb, h.lr, h.inj, h.ne, h.ft, h.fr⟩
  by_cases e : a = i
  · subst e
    rw [fo_set hj, sq_self (h.row a ha)]
    have : rowL n (upd (m a) j v) = rowL n (up2 m a j v a) := by
      unfold rowL
      refine List.map_congr_left (fun k _ => ?_)
      unfold upd up2
      by_cases hk : k = j
      · rw [if_pos hk, if_pos ⟨rfl, hk⟩]
      · rw [if_neg hk, if_neg (fun g => hk g.2)]
    rw [this]
  · have hne : rid a ≠ rid i := fun g => e (h.inj a i ha hi g)
    rw [List.getElem?_set_ne (fun g => hne g.symm), h.row a ha]
    have : rowL n (m a) = rowL n (up2 m i j v a) := by
      unfold rowL
      refine List.map_congr_left (fun k _ => ?_)
      unfold up2
      rw [if_neg (fun g => e g.1)]
    rw [this]

theorem copied_eq {N : Nat} {v : AV} {m : Nat → Nat → Int} {H : List Obj} {K : AV → List Obj → Prop} (hN : N + 1 ≤ 100) (hv : MatV H v (N + 1) m)
    (hk : ∀ b rid H', NC H.length H' b (N + 1) m rid .nil .norm → Fr H.length H H' → K (.agg [.i (N : Int), .own b (N + 1) 0 (N + 1)]) H') : WC E0 hp false 81 [.agg [.i (N : Int), v]] H K := by
  refine W_call fn81 (.inl rfl) rfl (by decide) ?_
  have hv1 := hv.one
  refine W_seq ?_
  refine W_gh ?_
  refine W_reg ?_
  refine O_box (cs := [.i (N : Int), v]) (sz := 2) H.length (H ++ [.lv 2 [.i (N : Int), v]]) (by kernel_rfl) rfl ?_ (h1 := by show (true && (v.one && true)) = true; rw [hv1.1]; rfl)
  refine O_alloc (sz := 2) (H.length + 1) (H ++ [.lv 2 [.i (N : Int), v], .lv 2 [.i 0, .nils]]) rfl ?_
  refine O_nil ?_
  refine Gh_one (s1 := ⟨⟨28, [(1, .po H.length 0), (2, .po (H.length + 1) 0)]⟩, H ++ [.lv 2 [.i (N : Int), v], .lv 2 [.i 0, .nils]]⟩) (by kernel_rfl) ?_
  refine Gh_wkp (id := H.length + 1) (cs' := [.i 0, .ro []]) (get_end 1 rfl) rfl rfl rfl ?_
  refine Gh_nil ?_
  have e1 : (H ++ [Obj.lv 2 [.i (N : Int), v], .lv 2 [.i 0, .nils]]).set (H.length + 1) (.lv 2 [.i 0, .ro []]) = H ++ [.lv 2 [.i (N : Int), v], .lv 2 [.i 0, .ro []]] := by simp
  show W E0 hp _ _ _ _ _ ⟨_, (H ++ [Obj.lv 2 [.i (N : Int), v], .lv 2 [.i 0, .nils]]).set (H.length + 1) (.lv 2 [.i 0, .ro []])⟩
  rw [e1]
  refine W_seq ?_
  refine W_gh ?_
  refine W_reg ?_
  refine O_q 1 ?_
  refine O_ldb (o := 0) (v := .i (N : Int)) (id := H.length) (get_end 0 rfl) (by kernel_rfl) rfl ?_
  refine O_q 1 ?_
  refine O_alloc (sz := 2) (H.length + 2) (H ++ [.lv 2 [.i (N : Int), v], .lv 2 [.i 0, .ro []], .lv 2 [.i 0, .nils]]) rfl ?_
  refine O_st (o := 0) (sz := 2) (cs := [.i 0, .nils]) (id := H.length + 2) [.i (N : Int), .nils] [.i (N : Int), .nils] (get_end 2 rfl) ?_
  refine O_nil ?_
  have e2 : (H ++ [Obj.lv 2 [.i (N : Int), v], .lv 2 [.i 0, .ro []], .lv 2 [.i 0, .nils]]).set (H.length + 2) (.lv 2 [.i (N : Int), .nils]) = H ++ [.lv 2 [.i (N : Int), v], .lv 2 [.i 0, .ro []], .lv 2 [.i (N : Int), .nils]] := by simp
  rw [e2]
  refine Gh_one (s1 := ⟨⟨28, [(1, .po H.length 0), (2, .po (H.length + 1) 0), (3, .po (H.length + 2) 0)]⟩, H ++ [.lv 2 [.i (N : Int), v], .lv 2 [.i 0, .ro []], .lv 2 [.i (N : Int), .nils]]⟩) (by kernel_rfl) ?_
  refine Gh_promf (id := H.length + 2) (c0 := .i (N : Int)) (get_end 2 rfl) rfl ?_
  have e3 : ((H ++ [Obj.lv 2 [.i (N : Int), v], .lv 2 [.i 0, .ro []], .lv 2 [.i (N : Int), .nils]]) ++ [Obj.live .nil 1 []]).set (H.length + 2) (.lv 2 [.i (N : Int), .own (H ++ [Obj.lv 2 [.i (N : Int), v], .lv 2 [.i 0, .ro []], .lv 2 [.i (N : Int), .nils]]).length 0 0 0]) = H ++ [.lv 2 [.i (N : Int), v], .lv 2 [.i 0, .ro []], .lv 2 [.i (N : Int), .own (H.length + 3) 0 0 0], .live .nil 1 []] := by simp
  show Gh H.length _ ⟨_, ((H ++ [Obj.lv 2 [.i (N : Int), v], .lv 2 [.i 0, .ro []], .lv 2 [.i (N : Int), .nils]]) ++ [Obj.live .nil 1 []]).set (H.length + 2) (.lv 2 [.i (N : Int), .own (H ++ [Obj.lv 2 [.i (N : Int), v], .lv 2 [.i 0, .ro []], .lv 2 [.i (N : Int), .nils]]).length 0 0 0])⟩ _
  rw [e3]
  refine Gh_wkp (id := H.length + 2) (cs' := [.i (N : Int), .own (H.length + 3) 0 0 0]) (get_end 2 rfl) rfl rfl rfl ?_
  refine Gh_nil ?_
  have e4 : (H ++ [Obj.lv 2 [.i (N : Int), v], .lv 2 [.i 0, .ro []], .lv 2 [.i (N : Int), .own (H.length + 3) 0 0 0], .live .nil 1 []]).set (H.length + 2) (.lv 2 [.i (N : Int), .own (H.length + 3) 0 0 0]) = H ++ [.lv 2 [.i (N : Int), v], .lv 2 [.i 0, .ro []], .lv 2 [.i (N : Int), .own (H.length + 3) 0 0 0], .live .nil 1 []] := by simp
  show W E0 hp _ _ _ _ _ ⟨_, (H ++ [Obj.lv 2 [.i (N : Int), v], .lv 2 [.i 0, .ro []], .lv 2 [.i (N : Int), .own (H.length + 3) 0 0 0], .live .nil 1 []]).set (H.length + 2) (.lv 2 [.i (N : Int), .own (H.length + 3) 0 0 0])⟩
  rw [e4]
  have s0 : (H ++ [Obj.lv 2 [.i (N : Int), v], .lv 2 [.i 0, .ro []], .lv 2 [.i (N : Int), .own (H.length + 3) 0 0 0], .live .nil 1 []])[H.length]? = some (.lv 2 [.i (N : Int), v]) := get_end 0 rfl
  have s1 : (H ++ [Obj.lv 2 [.i (N : Int), v], .lv 2 [.i 0, .ro []], .lv 2 [.i (N : Int), .own (H.length + 3) 0 0 0], .live .nil 1 []])[H.length + 1]? = some (.lv 2 [.i 0, .ro []]) := get_end 1 rfl
  have s2 : (H ++ [Obj.lv 2 [.i (N : Int), v], .lv 2 [.i 0, .ro []], .lv 2 [.i (N : Int), .own (H.length + 3) 0 0 0], .live .nil 1 []])[H.length + 2]? = some (.lv 2 [.i (N : Int), .own (H.length + 3) 0 0 0]) := get_end 2 rfl
  have s3 : (H ++ [Obj.lv 2 [.i (N : Int), v], .lv 2 [.i 0, .ro []], .lv 2 [.i (N : Int), .own (H.length + 3) 0 0 0], .live .nil 1 []])[H.length + 3]? = some (.live .nil 1 []) := get_end 3 rfl
  have s4 : (H ++ [Obj.lv 2 [.i (N : Int), v], .lv 2 [.i 0, .ro []], .lv 2 [.i (N : Int), .own (H.length + 3) 0 0 0], .live .nil 1 []]).length = H.length + 4 := by simp
  have s5 : Fr H.length H (H ++ [Obj.lv 2 [.i (N : Int), v], .lv 2 [.i 0, .ro []], .lv 2 [.i (N : Int), .own (H.length + 3) 0 0 0], .live .nil 1 []]) := Fr.app
  generalize H ++ [Obj.lv 2 [.i (N : Int), v], .lv 2 [.i 0, .ro []], .lv 2 [.i (N : Int), .own (H.length + 3) 0 0 0], .live .nil 1 []] = H1 at s0 s1 s2 s3 s4 s5 ⊢
  refine W_seq ?_
  refine W_seq ?_
  refine W_reg ?_
  refine O_q 1 ?_
  refine O_nil ?_
  let J : Nat → List Obj → Prop := fun k H' => H'[H.length]? = some (.lv 2 [.i (N : Int), v]) ∧ H'[H.length + 1]? = some (.lv 2 [.i 0, .ro []]) ∧ H'[H.length + 2]? = some (.lv 2 [.i (N : Int), .own (H.length + 3) k 0 k]) ∧ Fr H.length H H' ∧
    ∃ rid : Nat → Nat, H'[H.length + 3]? = some (.live .nil 1 ((List.range k).map fun i => [.own (rid i) (N + 1) 0 (N + 1)])) ∧ (∀ i, i < k → H'[rid i]? = some (fo (N + 1) (m i)) ∧ H.length + 4 ≤ rid i) ∧ (∀ i j, i < k → j < k → rid i = rid j → i = j)
  have hJT : ∀ k H', J k H' → NoT (H.length + 4) H' ∨ J k (H'.take (H.length + 4)) := by
    rintro k H' ⟨h1, h2, h3, h4, rid, h5, h6, h7⟩
    by_cases hk0 : k = 0
    · subst hk0
      exact .inr ⟨get_take h1 (by omega), get_take h2 (by omega), get_take h3 (by omega), h4.take (by omega), rid, get_take h5 (by omega), fun i hi => by omega, h7⟩
    · left
      refine noT_ref h5 (by omega) ?_
      exact belss_get (i := 0) (by rw [List.getElem?_map, List.getElem?_range (by omega)]; rfl) (h6 0 (by omega)).2
  refine W_gh (W_block ?_)
  refine W_lp (fun s' => ∃ (k : Nat) (H' : List Obj), s' = ⟨⟨28, [(1, .po H.length 0), (2, .po (H.length + 1) 0), (3, .po (H.length + 2) 0), (4, .i (k : Int))]⟩, H'⟩ ∧ k ≤ N + 1 ∧ J k H') (fun s' => match s'.tmps.get 4 with | .int _ k => N + 1 - k.toNat | _ => 0)
    ⟨0, H1, rfl, by omega, s0, s1, s2, s5, fun _ => 0, s3, fun i hi => by omega, fun i j hi => by omega⟩ ?_
  rintro s' ⟨k, H2, rfl, hkn, hJ⟩
  have hJ' := hJ
  obtain ⟨h1, h2, h3, h4, rid, h5, h6, h7⟩ := hJ
  have hv2 : MatV H2 v (N + 1) m := hv.ext h4
  refine W_gh ?_
  refine W_seq ?_
  refine W_seq ?_
  refine W_gh ?_
  refine W_reg ?_
  refine O_q 2 ?_
  refine O_ldb (o := 1) h1 (by kernel_rfl) rfl ?_
  have hlen : ∀ {t : T} {dst : Option Nat} {os : List ROp} {K' : T → List Obj → Prop}, evT E0.glob t (.t 10) = v → WO E0 hp false os (putD t dst (.i ((N + 1 : Nat) : Int))) H2 K' → WO E0 hp false (⟨dst, none, .len false (.t 10)⟩ :: os) t H2 K' := by
    intro t dst os K' hx hk'
    refine WO_step (v := .i ((N + 1 : Nat) : Int)) (H1 := H2) (by simp [RO.kind]) rfl ?_ hk'
    simp only [ev1, evalOpe, RO.kind, evalPe, hx]
    rcases hv2 with e | ⟨id, fl, r, e, _, _⟩
    · subst e
      have hl : ((matL (N + 1) m).map (cL cI_i64)).length = N + 1 := by simp [matL]
      show some (AV.i (((matL (N + 1) m).map (cL cI_i64)).length : Int), H2) = _
      rw [hl]
    · subst e; rfl
  refine hlen (by kernel_rfl) ?_
  refine O_q 1 ?_
  refine O_nil ?_
  refine Gh_e ⟨⟨28, [(1, .po H.length 0), (2, .po (H.length + 1) 0), (3, .po (H.length + 2) 0), (4, .i (k : Int)), (12, .bool (decide ((k : Int) < ((N + 1 : Nat) : Int))))]⟩, H2⟩ ?_
  refine W_gh ?_
  refine W_cond (c := decide ((k : Int) < ((N + 1 : Nat) : Int))) (by kernel_rfl) (fun c => ?_) (fun c => ?_)
  · have c3 : k < N + 1 := by have := of_decide_eq_true c; omega
    refine W_skip ?_
    refine Gh_e ⟨⟨28, [(1, .po H.length 0), (2, .po (H.length + 1) 0), (3, .po (H.length + 2) 0), (4, .i (k : Int))]⟩, H2⟩ ?_
    refine W_seq ?_
    refine W_gh ?_
    refine W_block ?_
    refine W_gh ?_
    refine W_drawW (L := H2.length) rfl ?_
    show WD E0 hp H2.length _ _ (H2 ++ [Obj.rsv, Obj.rsv, Obj.rsv, Obj.rsv]) _
    have hl2 : H.length + 4 ≤ H2.length := by have := get_lt h5; omega
    have a1 : ∀ {a : Nat} {o : Obj}, H2[a]? = some o → (H2 ++ [Obj.rsv, Obj.rsv, Obj.rsv, Obj.rsv])[a]? = some o := fun h => get_app h
    refine WD_q 1 [{}] ?_
    refine WD_ldb (o := 1) (a1 h3) rfl ?_
    refine WD_bsl0 (get_end 0 rfl) ?_
    rw [show (H2 ++ [Obj.rsv, Obj.rsv, Obj.rsv, Obj.rsv]).set (H2.length + 0) (.live .norm 1 []) = H2 ++ [.live .norm 1 [], .rsv, .rsv, .rsv] by simp]
    have a2 : ∀ {a : Nat} {o : Obj}, H2[a]? = some o → (H2 ++ [Obj.live .norm 1 [], .rsv, .rsv, .rsv])[a]? = some o := fun h => get_app h
    refine WD_q 1 [{}] ?_
    refine WD_ldb (o := 1) (a2 h1) rfl ?_
    refine WD_q 1 [{}] ?_
    refine WD_row (v := v) (i := k) (hv2.ext Fr.app) c3 (fun p rv hrv => ?_)
    -- the row itself lies in the old memory
    refine WD_appR (id := H2.length) (n := N + 1) (get_end 1 rfl) (get_end 0 rfl) hrv (by omega) (by decide) ?_
    rw [show (H2 ++ [Obj.live .norm 1 [], .rsv, .rsv, .rsv]).set H2.length (fo (N + 1) (m k)) = H2 ++ [fo (N + 1) (m k), .rsv, .rsv, .rsv] by simp]
    refine WD_bsl1 (v := .own H2.length (N + 1) 0 (N + 1)) (get_end 2 rfl) ?_
    rw [show (H2 ++ [fo (N + 1) (m k), Obj.rsv, .rsv, .rsv]).set (H2.length + 2) (.live .norm 1 [[.own H2.length (N + 1) 0 (N + 1)]]) = H2 ++ [fo (N + 1) (m k), .rsv, .live .norm 1 [[.own H2.length (N + 1) 0 (N + 1)]], .rsv] by simp]
    have a3 : ∀ {a : Nat} {o : Obj}, H2[a]? = some o → (H2 ++ [fo (N + 1) (m k), Obj.rsv, .live .norm 1 [[.own H2.length (N + 1) 0 (N + 1)]], .rsv])[a]? = some o := fun h => get_app h
    refine WD_app1 (id := H.length + 3) (m := k) (tid := H2.length + 2) (get_end 3 rfl) (a3 h5) (by simp) (get_end 2 rfl) rfl (by omega) (by omega) rfl ?_
    refine WD_q 1 [{}] ?_
    refine WD_stb (o := 1) (id := H.length + 2) (sz := 2) (cs := [.i (N : Int), .own (H.length + 3) k 0 k]) [.own (H.length + 3) (k + 1) 0 (k + 1)] [.i (N : Int), .own (H.length + 3) (k + 1) 0 (k + 1)] (get_ne (a3 h3) (by omega)) ?_
    have hrows : ((List.range k).map fun i => [AV.own (rid i) (N + 1) 0 (N + 1)]) ++ [[.own H2.length (N + 1) 0 (N + 1)]] = (List.range (k + 1)).map fun i => [.own (upd rid k H2.length i) (N + 1) 0 (N + 1)] := by
      rw [List.range_succ, List.map_append]
      congr 1
      · refine List.map_congr_left (fun i hi => ?_)
        rw [upd_ne (by have := List.mem_range.1 hi; omega)]
      · simp [upd_eq]
    rw [hrows]
    have hrefs : ∀ a ∈ Am.refs v, a < H2.length := hv2.refs
    refine WD_nil ⟨?_, ?_⟩
    · have n1 : ∀ a ∈ Am.refs v, a ≠ H2.length := fun a ha e => by have := hrefs a ha; omega
      simp [pairsDisj, disj, noneOf]
      have := hrefs
      refine ⟨by omega, by omega, fun h => ?_, by omega, by omega⟩
      have := hrefs _ h
      omega
    · have hfin : J (k + 1) (((H2 ++ [fo (N + 1) (m k), Obj.rsv, .live .norm 1 [[.own H2.length (N + 1) 0 (N + 1)]], .rsv]).set (H.length + 3) (.live .nil 1 ((List.range (k + 1)).map fun i => [.own (upd rid k H2.length i) (N + 1) 0 (N + 1)]))).set (H.length + 2) (.lv 2 [.i (N : Int), .own (H.length + 3) (k + 1) 0 (k + 1)])) := by
        refine ⟨get_ne (get_ne (a3 h1) (by omega)) (by omega), get_ne (get_ne (a3 h2) (by omega)) (by omega), sq_self (get_ne (a3 h3) (by omega)), fun a ha => ?_, upd rid k H2.length, get_ne (sq_self (a3 h5)) (by omega), fun i hi => ?_, fun i j hi hj e => ?_⟩
        · rw [List.getElem?_set_ne (by omega), List.getElem?_set_ne (by omega), List.getElem?_append_left (by omega)]; exact h4 a ha
        · by_cases e : i = k
          · subst e
            rw [upd_eq]
            exact ⟨get_ne (get_ne (get_end 0 rfl) (by omega)) (by omega), by omega⟩
          · rw [upd_ne e]
            obtain ⟨x1, x2⟩ := h6 i (by omega)
            exact ⟨get_ne (get_ne (a3 x1) (by omega)) (by omega), x2⟩
        · by_cases ei : i = k
          · by_cases ej : j = k
            · omega
            · rw [ei, upd_eq, upd_ne ej] at e
              have := get_lt (h6 j (by omega)).1; omega
          · by_cases ej : j = k
            · rw [ej, upd_eq, upd_ne ei] at e
              have := get_lt (h6 i (by omega)).1; omega
            · rw [upd_ne ei, upd_ne ej] at e
              exact h7 i j (by omega) (by omega) e
      refine Gh_one (s1 := ⟨⟨28, [(1, .po H.length 0), (2, .po (H.length + 1) 0), (3, .po (H.length + 2) 0), (4, .i (k : Int))]⟩, ((H2 ++ [fo (N + 1) (m k), Obj.rsv, .live .norm 1 [[.own H2.length (N + 1) 0 (N + 1)]], .rsv]).set (H.length + 3) (.live .nil 1 ((List.range (k + 1)).map fun i => [.own (upd rid k H2.length i) (N + 1) 0 (N + 1)]))).set (H.length + 2) (.lv 2 [.i (N : Int), .own (H.length + 3) (k + 1) 0 (k + 1)])⟩) (by kernel_rfl) ?_
      generalize ((H2 ++ [fo (N + 1) (m k), Obj.rsv, .live .norm 1 [[.own H2.length (N + 1) 0 (N + 1)]], .rsv]).set (H.length + 3) (.live .nil 1 ((List.range (k + 1)).map fun i => [.own (upd rid k H2.length i) (N + 1) 0 (N + 1)]))).set (H.length + 2) (.lv 2 [.i (N : Int), .own (H.length + 3) (k + 1) 0 (k + 1)]) = H3 at hfin ⊢
      refine Gh_tr (J (k + 1)) hfin (hJT _ _ hfin) (fun H4 h4 => ?_)
      refine Gh_nil ?_
      refine Gh_tr (J (k + 1)) h4 (hJT _ _ h4) (fun H5 h5 => ?_)
      refine Gh_nil ?_
      refine W_gh ?_
      refine W_reg ?_
      refine O_q 3 ?_
      refine O_nil ?_
      refine Gh_e ⟨⟨28, [(1, .po H.length 0), (2, .po (H.length + 1) 0), (3, .po (H.length + 2) 0), (4, .i (addI .i64 (k : Int) 1))]⟩, H5⟩ ?_
      rw [addI_nat (k := k) (by omega)]
      refine Gh_one (s1 := ⟨⟨28, [(1, .po H.length 0), (2, .po (H.length + 1) 0), (3, .po (H.length + 2) 0), (4, .i ((k + 1 : Nat) : Int))]⟩, H5⟩) (by kernel_rfl) ?_
      refine Gh_tr (J (k + 1)) h5 (hJT _ _ h5) (fun H6 h6 => ?_)
      refine Gh_nil ?_
      refine ⟨⟨k + 1, H6, rfl, by omega, h6⟩, ?_⟩
      show N + 1 - (((k + 1 : Nat) : Int)).toNat < N + 1 - ((k : Int)).toNat
      omega
  · have c3 := of_decide_eq_false c
    obtain rfl : k = N + 1 := by omega
    refine W_exit ?_
    refine X_hit ?_
    refine Gh_one (s1 := ⟨⟨28, [(2, .po (H.length + 1) 0), (3, .po (H.length + 2) 0)]⟩, H2⟩) (by kernel_rfl) ?_
    refine Gh_tr (J (N + 1)) hJ' (hJT _ _ hJ') (fun H3 h3 => ?_)
    refine Gh_nil ?_
    obtain ⟨h1, h2, h3, h4, rid, h5, h6, h7⟩ := h3
    refine W_seq ?_
    refine W_gh ?_
    refine W_reg ?_
    refine O_lda h3 (by kernel_rfl) rfl ?_
    refine O_st (o := 0) (sz := 2) (cs := [.i 0, .ro []]) (id := H.length + 1) [.i (N : Int), .own (H.length + 3) (N + 1) 0 (N + 1)] [.i (N : Int), .own (H.length + 3) (N + 1) 0 (N + 1)] h2 ?_
    refine O_nil ?_
    refine Gh_e ⟨⟨28, [(2, .po (H.length + 1) 0)]⟩, H3.set (H.length + 1) (.lv 2 [.i (N : Int), .own (H.length + 3) (N + 1) 0 (N + 1)])⟩ ?_
    refine W_ret ?_
    refine ⟨[.agg [.i (N : Int), .own (H.length + 3) (N + 1) 0 (N + 1)]], res_box rfl (sq_self h2) rfl rfl, hk (H.length + 3) rid _ ?_ (h4.set (by omega))⟩
    exact ⟨get_ne h5 (by omega), fun i hi => get_ne (h6 i hi).1 (by have := (h6 i hi).2; omega), by omega, fun i hi => by have := (h6 i hi).2; omega, h7, fun i hi => by have := (h6 i hi).2; omega, rfl, rfl⟩
end G11

namespace G11
open Go hiding Obj mark
open Go.Pl Go.Am Go.Am.As
set_option linter.unusedVariables false

def Sm (c : Int) (a : Option Int) : Prop := ∀ x, a = some x → -c ≤ x ∧ x ≤ c
theorem sum_val {a b : Option Int} {c : Int} (ha : Sm c a) (hb : Sm c b) (hc : c < 1099511627776) : m88 (ofO a) (ofO b) = some (ofO (osum a b)) := by
  unfold m88
  cases a with
  | none => rfl
  | some x =>
    cases b with
    | none =>
      have : ((ofO (some x) == -1099511627776) || (ofO none == -1099511627776)) = true := by simp [ofO]
      rw [this]; rfl
    | some y =>
      have h1 := ha x rfl
      have h2 := hb y rfl
      have : ((ofO (some x) == -1099511627776) || (ofO (some y) == -1099511627776)) = false := by simp [ofO]; omega
      rw [this, cond_false]
      show some (addI .i64 x y) = some (x + y)
      rw [addI_eq (by omega) (by omega)]
theorem les_val {a b : Option Int} {c : Int} (ha : Sm c a) (hb : Sm c b) (hc : c < 1099511627776) : m82 (ofO a) (ofO b) = some (ofO (omin a b)) := by
  have h84 : m84 (ofO a) (ofO b) = some (oless a b) := by
    unfold m84
    cases a with
    | none => rfl
    | some x =>
      have h1 := ha x rfl
      have e1 : (ofO (some x) != -1099511627776) = true := by simp [ofO]; omega
      rw [e1]
      cases b with
      | none => simp [ofO, oless]
      | some y =>
        have h2 := hb y rfl
        have e2 : (ofO (some y) == -1099511627776) = false := by simp [ofO]; omega
        rw [e2, Bool.true_and, Bool.false_or]
        rfl
  unfold m82
  rw [h84, Option.bind_some]
  unfold omin
  cases oless a b <;> rfl

/-- an entry while it is lowered -/
def gP (n : Nat) (w : Wt) (r k a b : Nat) : Option Int := (List.range k).foldl (fun x k => omin x (osum (pth n w r a k) (w k b))) (pth n w r a b)
theorem gP_succ {n : Nat} {w : Wt} {r k a b : Nat} : gP n w r (k + 1) a b = omin (gP n w r k a b) (osum (pth n w r a k) (w k b)) := by unfold gP; rw [List.range_succ, List.foldl_append]; rfl
theorem gP_end {n : Nat} {w : Wt} {r a b : Nat} : gP n w r n a b = pth n w (r + 1) a b := rfl
theorem gP_sm {n : Nat} {w : Wt} {r : Nat} {M : Int} (h0 : 0 ≤ M) (hM : ∀ i j x, w i j = some x → -M ≤ x ∧ x ≤ M) (k a b : Nat) : Sm ((r + 1 + 1 : Nat) * M) (gP n w r k a b) := by
  intro x hx
  have e2 : ((r + 1 + 1 : Nat) : Int) * M = (r + 1 : Nat) * M + M := by rw [Int.natCast_succ, Int.add_mul, Int.one_mul]
  rw [e2]
  unfold gP at hx
  rcases fold_or (g := fun k => osum (pth n w r a k) (w k b)) (List.range k) (pth n w r a b) with e | ⟨k', hk, e⟩
  · rw [e] at hx
    have := pth_small h0 hM r hx
    omega
  · rw [e] at hx
    obtain ⟨y, z, e1, e2, e3⟩ := osum_some hx
    have h1 := pth_small h0 hM r e1
    have h2 := hM _ _ _ e2
    omega

theorem mr_get {α : Type} {n i : Nat} {f : Nat → α} (hi : i < n) : ((List.range n).map f)[i]? = some (f i) := by rw [List.getElem?_map, List.getElem?_range hi]; rfl
theorem ne_get {H : List Obj} {a b : Nat} {o o' : Obj} (h : H[a]? = some o) (h' : H[b]? = some o') (hne : o ≠ o') : a ≠ b := by
  intro e; subst e; rw [h] at h'; injection h' with h'; exact hne h'
theorem obj_ne1 {fl : Fl} {es : List (List AV)} {cs : List AV} : Obj.live fl 1 es ≠ .lv 2 cs := by intro h; injection h with _ h _; cases h

theorem matL_row {n : Nat} {l : List (List Int)} (h : Sq n l) : l = matL n (ent l) := by
  refine List.ext_getElem (by simp [matL, h.1]) (fun i h1 h2 => ?_)
  have hr : l[i].length = n := h.2 _ (List.getElem_mem h1)
  refine List.ext_getElem (by simp [matL, rowL, hr]) (fun j h3 h4 => ?_)
  simp [matL, rowL, ent_get h1 h3]

theorem paths_eq {N : Nat} {l : List (List Int)} (h : Rt N l) {H : List Obj} {K : AV → List Obj → Prop}
    (hk : ∀ b rid m H', NC H.length H' b (N + 1) m rid .nil .norm → (∀ i j, i < N + 1 → j < N + 1 → m i j = ent (pathL l) i j) → Fr H.length H H' → K (.agg [.i (N : Int), .own b (N + 1) 0 (N + 1)]) H') : WC E0 hp false 51 [.agg [.i (N : Int), .ro (l.map (cL cI_i64))]] H K := by
  have hN := h.hN
  have hlm : l = matL (N + 1) (ent l) := matL_row h.sq
  have hM : ∀ i j x, wt l i j = some x → -64000000 ≤ x ∧ x ≤ 64000000 := fun i j x => h.ws
  have hro : ∀ H' : List Obj, MatV H' (.ro (l.map (cL cI_i64))) (N + 1) (ent l) := fun H' => .inl (by rw [← hlm])
  refine W_call fn51 (.inl rfl) rfl (by decide) ?_
  refine W_seq ?_
  refine W_gh ?_
  refine W_reg ?_
  refine O_box (cs := [.i (N : Int), .ro (l.map (cL cI_i64))]) (sz := 2) H.length (H ++ [.lv 2 [.i (N : Int), .ro (l.map (cL cI_i64))]]) (by kernel_rfl) rfl ?_
  refine O_alloc (sz := 2) (H.length + 1) (H ++ [.lv 2 [.i (N : Int), .ro (l.map (cL cI_i64))], .lv 2 [.i 0, .nils]]) rfl ?_
  refine O_nil ?_
  refine Gh_one (s1 := ⟨⟨72, [(1, .po H.length 0), (2, .po (H.length + 1) 0)]⟩, H ++ [.lv 2 [.i (N : Int), .ro (l.map (cL cI_i64))], .lv 2 [.i 0, .nils]]⟩) (by kernel_rfl) ?_
  refine Gh_wkp (id := H.length + 1) (cs' := [.i 0, .ro []]) (get_end 1 rfl) rfl rfl rfl ?_
  refine Gh_nil ?_
  have e1 : (H ++ [Obj.lv 2 [.i (N : Int), .ro (l.map (cL cI_i64))], .lv 2 [.i 0, .nils]]).set (H.length + 1) (.lv 2 [.i 0, .ro []]) = H ++ [.lv 2 [.i (N : Int), .ro (l.map (cL cI_i64))], .lv 2 [.i 0, .ro []]] := by simp
  show W E0 hp _ _ _ _ _ ⟨_, (H ++ [Obj.lv 2 [.i (N : Int), .ro (l.map (cL cI_i64))], .lv 2 [.i 0, .nils]]).set (H.length + 1) (.lv 2 [.i 0, .ro []])⟩
  rw [e1]
  have s0 : (H ++ [Obj.lv 2 [.i (N : Int), .ro (l.map (cL cI_i64))], .lv 2 [.i 0, .ro []]])[H.length]? = some (.lv 2 [.i (N : Int), .ro (l.map (cL cI_i64))]) := get_end 0 rfl
  have s1 : (H ++ [Obj.lv 2 [.i (N : Int), .ro (l.map (cL cI_i64))], .lv 2 [.i 0, .ro []]])[H.length + 1]? = some (.lv 2 [.i 0, .ro []]) := get_end 1 rfl
  have s4 : (H ++ [Obj.lv 2 [.i (N : Int), .ro (l.map (cL cI_i64))], .lv 2 [.i 0, .ro []]]).length = H.length + 2 := by simp
  have s5 : Fr H.length H (H ++ [Obj.lv 2 [.i (N : Int), .ro (l.map (cL cI_i64))], .lv 2 [.i 0, .ro []]]) := Fr.app
  generalize H ++ [Obj.lv 2 [.i (N : Int), .ro (l.map (cL cI_i64))], .lv 2 [.i 0, .ro []]] = H1 at s0 s1 s4 s5 ⊢
  refine W_seq ?_
  refine W_gh ?_
  refine W_reg ?_
  refine O_lda s0 (by kernel_rfl) rfl ?_
  refine O_wc (xs := [.agg [.i (N : Int), .ro (l.map (cL cI_i64))]]) (by kernel_rfl) (by kernel_rfl) ?_
  refine copied_eq (m := ent l) (by omega) (hro _) (fun bo rid H2 hnc hf2 => ?_)
  replace hnc : NC H1.length H2 bo (N + 1) (ent l) rid .nil .norm := hnc
  replace hf2 : Fr H1.length H1 H2 := hf2
  have hbo := get_lt hnc.top
  have hbo1 := hnc.lb
  have hr0 := hnc.lr 0 (by omega)
  have hr0' := get_lt (hnc.row 0 (by omega))
  refine O_alloc (sz := 2) H2.length (H2 ++ [.lv 2 [.i 0, .nils]]) rfl ?_
  refine O_st (o := 0) (sz := 2) (cs := [.i 0, .nils]) (id := H2.length) [.i (N : Int), .own bo (N + 1) 0 (N + 1)] [.i (N : Int), .own bo (N + 1) 0 (N + 1)] get_last ?_
  refine O_nil ?_
  rw [show (H2 ++ [Obj.lv 2 [.i 0, .nils]]).set H2.length (.lv 2 [.i (N : Int), .own bo (N + 1) 0 (N + 1)]) = H2 ++ [.lv 2 [.i (N : Int), .own bo (N + 1) 0 (N + 1)]] by simp]
  refine Gh_one (s1 := ⟨⟨72, [(1, .po H.length 0), (2, .po (H.length + 1) 0), (3, .po H2.length 0)]⟩, H2 ++ [.lv 2 [.i (N : Int), .own bo (N + 1) 0 (N + 1)]]⟩) (by kernel_rfl) ?_
  refine Gh_wkp (id := H2.length) (cs' := [.i (N : Int), .own bo (N + 1) 0 (N + 1)]) get_last rfl rfl rfl ?_
  refine Gh_nil ?_
  show W E0 hp _ _ _ _ _ ⟨_, (H2 ++ [Obj.lv 2 [.i (N : Int), .own bo (N + 1) 0 (N + 1)]]).set H2.length (.lv 2 [.i (N : Int), .own bo (N + 1) 0 (N + 1)])⟩
  rw [show (H2 ++ [Obj.lv 2 [.i (N : Int), .own bo (N + 1) 0 (N + 1)]]).set H2.length (.lv 2 [.i (N : Int), .own bo (N + 1) 0 (N + 1)]) = H2 ++ [.lv 2 [.i (N : Int), .own bo (N + 1) 0 (N + 1)]] by simp]
  have t0 : (H2 ++ [Obj.lv 2 [.i (N : Int), .own bo (N + 1) 0 (N + 1)]])[H.length]? = some (.lv 2 [.i (N : Int), .ro (l.map (cL cI_i64))]) := get_app ((hf2 _ (by omega)).trans s0)
  have t1 : (H2 ++ [Obj.lv 2 [.i (N : Int), .own bo (N + 1) 0 (N + 1)]])[H.length + 1]? = some (.lv 2 [.i 0, .ro []]) := get_app ((hf2 _ (by omega)).trans s1)
  have t2 : (H2 ++ [Obj.lv 2 [.i (N : Int), .own bo (N + 1) 0 (N + 1)]])[H2.length]? = some (.lv 2 [.i (N : Int), .own bo (N + 1) 0 (N + 1)]) := get_last
  have t3 : NC (H.length + 2) (H2 ++ [Obj.lv 2 [.i (N : Int), .own bo (N + 1) 0 (N + 1)]]) bo (N + 1) (ent l) rid .nil .norm := (hnc.ext Fr.app).low (by omega)
  have t5 : Fr H.length H (H2 ++ [Obj.lv 2 [.i (N : Int), .own bo (N + 1) 0 (N + 1)]]) := (s5.trans hf2 (by omega)).trans Fr.app (by omega)
  have hA : H.length + 4 ≤ H2.length := by have := hnc.ne 0 (by omega); omega
  generalize H2 ++ [Obj.lv 2 [.i (N : Int), .own bo (N + 1) 0 (N + 1)]] = H3 at t0 t1 t2 t3 t5 ⊢
  generalize H2.length = A at t2 hA ⊢
  refine W_seq ?_
  refine W_seq ?_
  refine W_reg ?_
  refine O_q 1 ?_
  refine O_nil ?_
  let Q : Nat → List Obj → Prop := fun r H' => H'[H.length]? = some (.lv 2 [.i (N : Int), .ro (l.map (cL cI_i64))]) ∧ H'[H.length + 1]? = some (.lv 2 [.i 0, .ro []]) ∧ Fr H.length H H' ∧
    ∃ bo rid m, H'[A]? = some (.lv 2 [.i (N : Int), .own bo (N + 1) 0 (N + 1)]) ∧ NC (H.length + 2) H' bo (N + 1) m rid .nil .norm ∧ ∀ i j, i < N + 1 → j < N + 1 → m i j = ofO (pth (N + 1) (wt l) r i j)
  refine W_gh (W_block ?_)
  refine W_lp (fun s' => ∃ (r : Nat) (H' : List Obj), s' = ⟨⟨72, [(1, .po H.length 0), (2, .po (H.length + 1) 0), (3, .po A 0), (4, .i (r : Int))]⟩, H'⟩ ∧ r ≤ N + 1 ∧ Q r H') (fun s' => match s'.tmps.get 4 with | .int _ k => N + 1 - k.toNat | _ => 0)
    ⟨0, H3, rfl, by omega, t0, t1, t5, bo, rid, ent l, t2, t3, fun i j hi hj => (ofO_toO _).symm⟩ ?_
  rintro s' ⟨r, H4, rfl, hr, hQ⟩
  have hQ' := hQ
  obtain ⟨q1, q2, q3, bo, rid, mo, q4, q5, q6⟩ := hQ
  refine W_gh ?_
  refine W_seq ?_
  refine W_seq ?_
  refine W_gh ?_
  refine W_reg ?_
  refine O_q 2 ?_
  refine O_ldb (o := 0) q1 (by kernel_rfl) rfl ?_
  refine O_q 1 ?_
  refine O_nil ?_
  refine Gh_e ⟨⟨72, [(1, .po H.length 0), (2, .po (H.length + 1) 0), (3, .po A 0), (4, .i (r : Int)), (14, .bool (decide ((r : Int) ≤ (N : Int))))]⟩, H4⟩ ?_
  refine W_gh ?_
  refine W_cond (c := decide ((r : Int) ≤ (N : Int))) (by kernel_rfl) (fun c => ?_) (fun c => ?_)
  · have c3 : r < N + 1 := by have := of_decide_eq_true c; omega
    have hps : ∀ a b, Sm 1000000000 (pth (N + 1) (wt l) r a b) := fun a b x hx => by
      have := pth_small (M := 64000000) (by omega) hM r hx
      omega
    have hws : ∀ a b, Sm 1000000000 (wt l a b) := fun a b x hx => by have := hM _ _ _ hx; omega
    have hgs : ∀ k a b, Sm 1000000000 (gP (N + 1) (wt l) r k a b) := fun k a b x hx => by
      have := gP_sm (M := 64000000) (by omega) hM k a b x hx
      omega
    refine W_skip ?_
    refine Gh_e ⟨⟨72, [(1, .po H.length 0), (2, .po (H.length + 1) 0), (3, .po A 0), (4, .i (r : Int))]⟩, H4⟩ ?_
    refine W_seq ?_
    refine W_gh ?_
    refine W_block ?_
    refine W_seq ?_
    refine W_gh ?_
    refine W_reg ?_
    refine O_lda q4 (by kernel_rfl) rfl ?_
    refine O_wc (xs := [.agg [.i (N : Int), .own bo (N + 1) 0 (N + 1)]]) (by kernel_rfl) (by kernel_rfl) ?_
    refine copied_eq (m := mo) (by omega) q5.mat (fun bn ridn H5 hnn hf5 => ?_)
    replace hnn : NC H4.length H5 bn (N + 1) mo ridn .nil .norm := hnn
    replace hf5 : Fr H4.length H4 H5 := hf5
    have hl45 : H4.length ≤ H5.length := by have := get_lt hnn.top; have := hnn.lb; omega
    refine O_alloc (sz := 2) H5.length (H5 ++ [.lv 2 [.i 0, .nils]]) rfl ?_
    refine O_st (o := 0) (sz := 2) (cs := [.i 0, .nils]) (id := H5.length) [.i (N : Int), .own bn (N + 1) 0 (N + 1)] [.i (N : Int), .own bn (N + 1) 0 (N + 1)] get_last ?_
    refine O_nil ?_
    rw [show (H5 ++ [Obj.lv 2 [.i 0, .nils]]).set H5.length (.lv 2 [.i (N : Int), .own bn (N + 1) 0 (N + 1)]) = H5 ++ [.lv 2 [.i (N : Int), .own bn (N + 1) 0 (N + 1)]] by simp]
    refine Gh_one (s1 := ⟨⟨72, [(1, .po H.length 0), (2, .po (H.length + 1) 0), (3, .po A 0), (4, .i (r : Int)), (5, .po H5.length 0)]⟩, H5 ++ [.lv 2 [.i (N : Int), .own bn (N + 1) 0 (N + 1)]]⟩) (by kernel_rfl) ?_
    refine Gh_wkp (id := H5.length) (cs' := [.i (N : Int), .own bn (N + 1) 0 (N + 1)]) get_last rfl rfl rfl ?_
    refine Gh_nil ?_
    show W E0 hp _ _ _ _ _ ⟨_, (H5 ++ [Obj.lv 2 [.i (N : Int), .own bn (N + 1) 0 (N + 1)]]).set H5.length (.lv 2 [.i (N : Int), .own bn (N + 1) 0 (N + 1)])⟩
    rw [show (H5 ++ [Obj.lv 2 [.i (N : Int), .own bn (N + 1) 0 (N + 1)]]).set H5.length (.lv 2 [.i (N : Int), .own bn (N + 1) 0 (N + 1)]) = H5 ++ [.lv 2 [.i (N : Int), .own bn (N + 1) 0 (N + 1)]] by simp]
    have hfa : Fr H4.length H4 (H5 ++ [Obj.lv 2 [.i (N : Int), .own bn (N + 1) 0 (N + 1)]]) := hf5.trans Fr.app hl45
    have u0 : (H5 ++ [Obj.lv 2 [.i (N : Int), .own bn (N + 1) 0 (N + 1)]])[H5.length]? = some (.lv 2 [.i (N : Int), .own bn (N + 1) 0 (N + 1)]) := get_last
    have u1 : NC H4.length (H5 ++ [Obj.lv 2 [.i (N : Int), .own bn (N + 1) 0 (N + 1)]]) bn (N + 1) mo ridn .nil .norm := hnn.ext Fr.app
    generalize H5 ++ [Obj.lv 2 [.i (N : Int), .own bn (N + 1) 0 (N + 1)]] = H6 at hfa u0 u1 ⊢
    generalize H5.length = B at u0 hl45 ⊢
    -- what stays while the next sums are computed
    let P : Nat → Nat → Nat → List Obj → Prop := fun i j k H' => Fr H4.length H4 H' ∧ H'[B]? = some (.lv 2 [.i (N : Int), .own bn (N + 1) 0 (N + 1)]) ∧
      ∃ m, NC H4.length H' bn (N + 1) m ridn .nil .norm ∧ ∀ a b, a < N + 1 → b < N + 1 → m a b = ofO (if a < i ∨ a = i ∧ b < j then pth (N + 1) (wt l) (r + 1) a b else if a = i ∧ b = j then gP (N + 1) (wt l) r k a b else pth (N + 1) (wt l) r a b)
    refine W_seq ?_
    refine W_seq ?_
    refine W_reg ?_
    refine O_q 1 ?_
    refine O_nil ?_
    refine W_gh (W_block ?_)
    refine W_lp (fun s' => ∃ (i : Nat) (H' : List Obj), s' = ⟨⟨72, [(1, .po H.length 0), (2, .po (H.length + 1) 0), (3, .po A 0), (4, .i (r : Int)), (5, .po B 0), (6, .i (i : Int))]⟩, H'⟩ ∧ i ≤ N + 1 ∧ P i 0 0 H') (fun s' => match s'.tmps.get 6 with | .int _ k => N + 1 - k.toNat | _ => 0)
      ⟨0, H6, rfl, by omega, hfa, u0, mo, u1, fun a b ha hb => by
        rw [q6 a b ha hb, if_neg (by omega)]
        split
        · rfl
        · rfl⟩ ?_
    rintro s' ⟨i, H7, rfl, hi, hP⟩
    have v1 : H7[H.length]? = some (.lv 2 [.i (N : Int), .ro (l.map (cL cI_i64))]) := (hP.1 _ (get_lt q1)).trans q1
    refine W_gh ?_
    refine W_seq ?_
    refine W_seq ?_
    refine W_gh ?_
    refine W_reg ?_
    refine O_q 2 ?_
    refine O_ldb (o := 0) v1 (by kernel_rfl) rfl ?_
    refine O_q 1 ?_
    refine O_nil ?_
    refine Gh_e ⟨⟨72, [(1, .po H.length 0), (2, .po (H.length + 1) 0), (3, .po A 0), (4, .i (r : Int)), (5, .po B 0), (6, .i (i : Int)), (22, .bool (decide ((i : Int) ≤ (N : Int))))]⟩, H7⟩ ?_
    refine W_gh ?_
    refine W_cond (c := decide ((i : Int) ≤ (N : Int))) (by kernel_rfl) (fun c => ?_) (fun c => ?_)
    · have c4 : i < N + 1 := by have := of_decide_eq_true c; omega
      refine W_skip ?_
      refine Gh_e ⟨⟨72, [(1, .po H.length 0), (2, .po (H.length + 1) 0), (3, .po A 0), (4, .i (r : Int)), (5, .po B 0), (6, .i (i : Int))]⟩, H7⟩ ?_
      refine W_seq ?_
      refine W_gh ?_
      refine W_block ?_
      refine W_seq ?_
      refine W_reg ?_
      refine O_q 1 ?_
      refine O_nil ?_
      refine W_gh (W_block ?_)
      refine W_lp (fun s' => ∃ (j : Nat) (H' : List Obj), s' = ⟨⟨72, [(1, .po H.length 0), (2, .po (H.length + 1) 0), (3, .po A 0), (4, .i (r : Int)), (5, .po B 0), (6, .i (i : Int)), (7, .i (j : Int))]⟩, H'⟩ ∧ j ≤ N + 1 ∧ P i j 0 H') (fun s' => match s'.tmps.get 7 with | .int _ k => N + 1 - k.toNat | _ => 0) ⟨0, H7, rfl, by omega, hP⟩ ?_
      rintro s' ⟨j, H8, rfl, hj, hP⟩
      have v1 : H8[H.length]? = some (.lv 2 [.i (N : Int), .ro (l.map (cL cI_i64))]) := (hP.1 _ (get_lt q1)).trans q1
      refine W_gh ?_
      refine W_seq ?_
      refine W_seq ?_
      refine W_gh ?_
      refine W_reg ?_
      refine O_q 2 ?_
      refine O_ldb (o := 0) v1 (by kernel_rfl) rfl ?_
      refine O_q 1 ?_
      refine O_nil ?_
      refine Gh_e ⟨⟨72, [(1, .po H.length 0), (2, .po (H.length + 1) 0), (3, .po A 0), (4, .i (r : Int)), (5, .po B 0), (6, .i (i : Int)), (7, .i (j : Int)), (28, .bool (decide ((j : Int) ≤ (N : Int))))]⟩, H8⟩ ?_
      refine W_gh ?_
      refine W_cond (c := decide ((j : Int) ≤ (N : Int))) (by kernel_rfl) (fun c => ?_) (fun c => ?_)
      · have c5 : j < N + 1 := by have := of_decide_eq_true c; omega
        refine W_skip ?_
        refine Gh_e ⟨⟨72, [(1, .po H.length 0), (2, .po (H.length + 1) 0), (3, .po A 0), (4, .i (r : Int)), (5, .po B 0), (6, .i (i : Int)), (7, .i (j : Int))]⟩, H8⟩ ?_
        refine W_seq ?_
        refine W_gh ?_
        refine W_block ?_
        refine W_seq ?_
        refine W_reg ?_
        refine O_q 1 ?_
        refine O_nil ?_
        refine W_gh (W_block ?_)
        refine W_lp (fun s' => ∃ (k : Nat) (H' : List Obj), s' = ⟨⟨72, [(1, .po H.length 0), (2, .po (H.length + 1) 0), (3, .po A 0), (4, .i (r : Int)), (5, .po B 0), (6, .i (i : Int)), (7, .i (j : Int)), (8, .i (k : Int))]⟩, H'⟩ ∧ k ≤ N + 1 ∧ P i j k H') (fun s' => match s'.tmps.get 8 with | .int _ k => N + 1 - k.toNat | _ => 0) ⟨0, H8, rfl, by omega, hP⟩ ?_
        rintro s' ⟨k, H9, rfl, hkn, hP⟩
        have v1 : H9[H.length]? = some (.lv 2 [.i (N : Int), .ro (l.map (cL cI_i64))]) := (hP.1 _ (get_lt q1)).trans q1
        refine W_gh ?_
        refine W_seq ?_
        refine W_seq ?_
        refine W_gh ?_
        refine W_reg ?_
        refine O_q 2 ?_
        refine O_ldb (o := 0) v1 (by kernel_rfl) rfl ?_
        refine O_q 1 ?_
        refine O_nil ?_
        refine Gh_e ⟨⟨72, [(1, .po H.length 0), (2, .po (H.length + 1) 0), (3, .po A 0), (4, .i (r : Int)), (5, .po B 0), (6, .i (i : Int)), (7, .i (j : Int)), (8, .i (k : Int)), (34, .bool (decide ((k : Int) ≤ (N : Int))))]⟩, H9⟩ ?_
        refine W_gh ?_
        refine W_cond (c := decide ((k : Int) ≤ (N : Int))) (by kernel_rfl) (fun c => ?_) (fun c => ?_)
        · have c6 : k < N + 1 := by have := of_decide_eq_true c; omega
          obtain ⟨p1, p2, mn, p3, p4⟩ := hP
          have v4 : H9[A]? = some (.lv 2 [.i (N : Int), .own bo (N + 1) 0 (N + 1)]) := (p1 _ (get_lt q4)).trans q4
          have v5 : MatV H9 (.own bo (N + 1) 0 (N + 1)) (N + 1) mo := q5.mat.ext p1
          refine W_skip ?_
          refine Gh_e ⟨⟨72, [(1, .po H.length 0), (2, .po (H.length + 1) 0), (3, .po A 0), (4, .i (r : Int)), (5, .po B 0), (6, .i (i : Int)), (7, .i (j : Int)), (8, .i (k : Int))]⟩, H9⟩ ?_
          refine W_seq ?_
          refine W_block ?_
          refine W_gh ?_
          refine W_draw ?_
          refine O_q 1 ?_
          refine O_ldb (o := 1) p2 (by kernel_rfl) rfl ?_
          refine O_q 1 ?_
          refine O_owld (n := N + 1) (i := i) (v := .own (ridn i) (N + 1) 0 (N + 1)) p3.top (by simp) (mr_get c4) ?_
          refine O_q 2 ?_
          refine O_ldb (o := 1) p2 (by kernel_rfl) rfl ?_
          refine O_q 1 ?_
          refine O_owld (n := N + 1) (i := i) (v := .own (ridn i) (N + 1) 0 (N + 1)) p3.top (by simp) (mr_get c4) ?_
          refine O_q 1 ?_
          refine O_owld (i := j) (p3.row i c4) fo_len (fo_get c5) ?_
          refine O_q 1 ?_
          refine O_ldb (o := 1) v4 (by kernel_rfl) rfl ?_
          refine O_q 1 ?_
          refine O_row (v := .own bo (N + 1) 0 (N + 1)) (i := i) v5 c4 (fun pa ra hra => ?_)
          refine O_q 1 ?_
          refine O_el (j := k) hra c6 (fun pb => ?_)
          refine O_q 1 ?_
          refine O_ldb (o := 1) v1 (by kernel_rfl) rfl ?_
          refine O_q 1 ?_
          refine O_rold (i := k) (by kernel_rfl) (h.sq.row c6) ?_
          refine O_q 1 ?_
          refine O_rold (i := j) (by kernel_rfl) (h.sq.el c6 c5) ?_
          have x1 : mo i k = ofO (pth (N + 1) (wt l) r i k) := q6 i k c4 c6
          have x2 : ent l k j = ofO (wt l k j) := (ofO_toO _).symm
          have x3 : mn i j = ofO (gP (N + 1) (wt l) r k i j) := by rw [p4 i j c4 c5, if_neg (by omega), if_pos ⟨rfl, rfl⟩]
          have y1 : m88 (mo i k) (ent l k j) = some (ofO (osum (pth (N + 1) (wt l) r i k) (wt l k j))) := by rw [x1, x2]; exact sum_val (hps _ _) (hws _ _) (by decide)
          have y2 : m82 (mn i j) (ofO (osum (pth (N + 1) (wt l) r i k) (wt l k j))) = some (ofO (gP (N + 1) (wt l) r (k + 1) i j)) := by
            rw [x3, gP_succ]
            refine les_val (c := 2000000000) (fun x hx => by have := hgs _ _ _ x hx; omega) (fun x hx => ?_) (by decide)
            obtain ⟨y, z, e1, e2, e3⟩ := osum_some hx
            have := hps _ _ y e1
            have := hws _ _ z e2
            omega
          refine O_pt (xs := [.i (mo i k), .i (ent l k j)]) (by kernel_rfl) rfl rfl (p88 _ _ _ y1) ?_
          refine O_pt (xs := [.i (mn i j), .i (ofO (osum (pth (N + 1) (wt l) r i k) (wt l k j)))]) (by kernel_rfl) rfl rfl (p82 _ _ _ y2) ?_
          refine O_owst (i := j) (v' := .i (ofO (gP (N + 1) (wt l) r (k + 1) i j))) (p3.row i c4) fo_len (fo_get c5) rfl ?_
          refine O_nil ?_
          have hP2 : P i j (k + 1) (H9.set (ridn i) (.live .norm 1 (((rowL (N + 1) (mn i)).map cI_i64).set j [.i (ofO (gP (N + 1) (wt l) r (k + 1) i j))]))) := by
            refine ⟨p1.set (p3.lr i c4), get_ne p2 (fun e => ne_get (p3.row i c4) p2 obj_ne1 e.symm), _, p3.put c4 c5, fun a b ha hb => ?_⟩
            by_cases e : a = i ∧ b = j
            · obtain ⟨rfl, rfl⟩ := e
              rw [up2_eq, if_neg (by omega), if_pos ⟨rfl, rfl⟩]
            · rw [up2_ne e, p4 a b ha hb, if_neg e]
              by_cases e2 : a < i ∨ a = i ∧ b < j
              · rw [if_pos e2, if_pos e2]
              · rw [if_neg e2, if_neg e2, if_neg e]
          refine Gh_e ⟨⟨72, [(1, .po H.length 0), (2, .po (H.length + 1) 0), (3, .po A 0), (4, .i (r : Int)), (5, .po B 0), (6, .i (i : Int)), (7, .i (j : Int)), (8, .i (k : Int))]⟩, H9.set (ridn i) (.live .norm 1 (((rowL (N + 1) (mn i)).map cI_i64).set j [.i (ofO (gP (N + 1) (wt l) r (k + 1) i j))]))⟩ ?_
          generalize H9.set (ridn i) (.live .norm 1 (((rowL (N + 1) (mn i)).map cI_i64).set j [.i (ofO (gP (N + 1) (wt l) r (k + 1) i j))])) = H10 at hP2 ⊢
          refine W_gh ?_
          refine W_reg ?_
          refine O_q 3 ?_
          refine O_nil ?_
          refine Gh_e ⟨⟨72, [(1, .po H.length 0), (2, .po (H.length + 1) 0), (3, .po A 0), (4, .i (r : Int)), (5, .po B 0), (6, .i (i : Int)), (7, .i (j : Int)), (8, .i (addI .i64 (k : Int) 1))]⟩, H10⟩ ?_
          rw [addI_nat (k := k) (by omega)]
          refine Gh_e ⟨⟨72, [(1, .po H.length 0), (2, .po (H.length + 1) 0), (3, .po A 0), (4, .i (r : Int)), (5, .po B 0), (6, .i (i : Int)), (7, .i (j : Int)), (8, .i ((k + 1 : Nat) : Int))]⟩, H10⟩ ?_
          refine ⟨⟨k + 1, H10, rfl, by omega, hP2⟩, ?_⟩
          show N + 1 - (((k + 1 : Nat) : Int)).toNat < N + 1 - ((k : Int)).toNat
          omega
        · have c6 := of_decide_eq_false c
          obtain rfl : k = N + 1 := by omega
          have hP2 : P i (j + 1) 0 H9 := by
            obtain ⟨p1, p2, mn, p3, p4⟩ := hP
            refine ⟨p1, p2, mn, p3, fun a b ha hb => ?_⟩
            rw [p4 a b ha hb]
            by_cases e2 : a < i ∨ a = i ∧ b < j
            · rw [if_pos e2, if_pos (by omega)]
            · rw [if_neg e2]
              by_cases e : a = i ∧ b = j
              · rw [if_pos e, if_pos (by omega), gP_end]
              · rw [if_neg e, if_neg (by omega)]
                split
                · rfl
                · rfl
          refine W_exit ?_
          refine X_hit ?_
          refine Gh_e ⟨⟨72, [(1, .po H.length 0), (2, .po (H.length + 1) 0), (3, .po A 0), (4, .i (r : Int)), (5, .po B 0), (6, .i (i : Int)), (7, .i (j : Int))]⟩, H9⟩ ?_
          refine Gh_e ⟨⟨72, [(1, .po H.length 0), (2, .po (H.length + 1) 0), (3, .po A 0), (4, .i (r : Int)), (5, .po B 0), (6, .i (i : Int)), (7, .i (j : Int))]⟩, H9⟩ ?_
          refine W_gh ?_
          refine W_reg ?_
          refine O_q 3 ?_
          refine O_nil ?_
          refine Gh_e ⟨⟨72, [(1, .po H.length 0), (2, .po (H.length + 1) 0), (3, .po A 0), (4, .i (r : Int)), (5, .po B 0), (6, .i (i : Int)), (7, .i (addI .i64 (j : Int) 1))]⟩, H9⟩ ?_
          rw [addI_nat (k := j) (by omega)]
          refine Gh_e ⟨⟨72, [(1, .po H.length 0), (2, .po (H.length + 1) 0), (3, .po A 0), (4, .i (r : Int)), (5, .po B 0), (6, .i (i : Int)), (7, .i ((j + 1 : Nat) : Int))]⟩, H9⟩ ?_
          refine ⟨⟨j + 1, H9, rfl, by omega, hP2⟩, ?_⟩
          show N + 1 - (((j + 1 : Nat) : Int)).toNat < N + 1 - ((j : Int)).toNat
          omega
      · have c5 := of_decide_eq_false c
        obtain rfl : j = N + 1 := by omega
        have hP2 : P (i + 1) 0 0 H8 := by
          obtain ⟨p1, p2, mn, p3, p4⟩ := hP
          refine ⟨p1, p2, mn, p3, fun a b ha hb => ?_⟩
          rw [p4 a b ha hb]
          by_cases e2 : a < i ∨ a = i ∧ b < N + 1
          · rw [if_pos e2, if_pos (by omega)]
          · rw [if_neg e2, if_neg (by omega), if_neg (by omega)]
            split
            · rfl
            · rfl
        refine W_exit ?_
        refine X_hit ?_
        refine Gh_e ⟨⟨72, [(1, .po H.length 0), (2, .po (H.length + 1) 0), (3, .po A 0), (4, .i (r : Int)), (5, .po B 0), (6, .i (i : Int))]⟩, H8⟩ ?_
        refine Gh_e ⟨⟨72, [(1, .po H.length 0), (2, .po (H.length + 1) 0), (3, .po A 0), (4, .i (r : Int)), (5, .po B 0), (6, .i (i : Int))]⟩, H8⟩ ?_
        refine W_gh ?_
        refine W_reg ?_
        refine O_q 3 ?_
        refine O_nil ?_
        refine Gh_e ⟨⟨72, [(1, .po H.length 0), (2, .po (H.length + 1) 0), (3, .po A 0), (4, .i (r : Int)), (5, .po B 0), (6, .i (addI .i64 (i : Int) 1))]⟩, H8⟩ ?_
        rw [addI_nat (k := i) (by omega)]
        refine Gh_e ⟨⟨72, [(1, .po H.length 0), (2, .po (H.length + 1) 0), (3, .po A 0), (4, .i (r : Int)), (5, .po B 0), (6, .i ((i + 1 : Nat) : Int))]⟩, H8⟩ ?_
        refine ⟨⟨i + 1, H8, rfl, by omega, hP2⟩, ?_⟩
        show N + 1 - (((i + 1 : Nat) : Int)).toNat < N + 1 - ((i : Int)).toNat
        omega
    · have c4 := of_decide_eq_false c
      obtain rfl : i = N + 1 := by omega
      obtain ⟨p1, p2, mn, p3, p4⟩ := hP
      have v4 : H7[A]? = some (.lv 2 [.i (N : Int), .own bo (N + 1) 0 (N + 1)]) := (p1 _ (get_lt q4)).trans q4
      have v2 : H7[H.length + 1]? = some (.lv 2 [.i 0, .ro []]) := (p1 _ (get_lt q2)).trans q2
      have hA4 := get_lt q4
      refine W_exit ?_
      refine X_hit ?_
      refine Gh_e ⟨⟨72, [(1, .po H.length 0), (2, .po (H.length + 1) 0), (3, .po A 0), (4, .i (r : Int)), (5, .po B 0)]⟩, H7⟩ ?_
      refine W_gh ?_
      refine W_reg ?_
      refine O_lda p2 (by kernel_rfl) rfl ?_
      refine O_st (o := 0) (sz := 2) (cs := [.i (N : Int), .own bo (N + 1) 0 (N + 1)]) (id := A) [.i (N : Int), .own bn (N + 1) 0 (N + 1)] [.i (N : Int), .own bn (N + 1) 0 (N + 1)] v4 ?_
      refine O_nil ?_
      have hQ2 : Q (r + 1) (H7.set A (.lv 2 [.i (N : Int), .own bn (N + 1) 0 (N + 1)])) := by
        refine ⟨get_ne v1 (by omega), get_ne v2 (by omega), (q3.trans p1 (by have := get_lt q1; omega)).set (by omega), bn, ridn, mn, sq_self v4, (p3.set hA4).low (by have := get_lt q2; omega), fun a b ha hb => ?_⟩
        rw [p4 a b ha hb, if_pos (by omega)]
      refine Gh_e ⟨⟨72, [(1, .po H.length 0), (2, .po (H.length + 1) 0), (3, .po A 0), (4, .i (r : Int))]⟩, H7.set A (.lv 2 [.i (N : Int), .own bn (N + 1) 0 (N + 1)])⟩ ?_
      generalize H7.set A (.lv 2 [.i (N : Int), .own bn (N + 1) 0 (N + 1)]) = H8 at hQ2 ⊢
      refine Gh_one (s1 := ⟨⟨72, [(1, .po H.length 0), (2, .po (H.length + 1) 0), (3, .po A 0), (4, .i (r : Int))]⟩, H8⟩) (by kernel_rfl) ?_
      refine Gh_keep (tb_skip (tb_skip (tb_bad (by simp [AV.bel]; omega)))) ?_
      refine Gh_nil ?_
      refine W_gh ?_
      refine W_reg ?_
      refine O_q 3 ?_
      refine O_nil ?_
      refine Gh_e ⟨⟨72, [(1, .po H.length 0), (2, .po (H.length + 1) 0), (3, .po A 0), (4, .i (addI .i64 (r : Int) 1))]⟩, H8⟩ ?_
      rw [addI_nat (k := r) (by omega)]
      refine Gh_one (s1 := ⟨⟨72, [(1, .po H.length 0), (2, .po (H.length + 1) 0), (3, .po A 0), (4, .i ((r + 1 : Nat) : Int))]⟩, H8⟩) (by kernel_rfl) ?_
      refine Gh_keep (tb_skip (tb_skip (tb_bad (by simp [AV.bel]; omega)))) ?_
      refine Gh_nil ?_
      refine ⟨⟨r + 1, H8, rfl, by omega, hQ2⟩, ?_⟩
      show N + 1 - (((r + 1 : Nat) : Int)).toNat < N + 1 - ((r : Int)).toNat
      omega
  · have c3 := of_decide_eq_false c
    obtain rfl : r = N + 1 := by omega
    have hA4 := get_lt q4
    refine W_exit ?_
    refine X_hit ?_
    refine Gh_one (s1 := ⟨⟨72, [(2, .po (H.length + 1) 0), (3, .po A 0)]⟩, H4⟩) (by kernel_rfl) ?_
    refine Gh_keep (tb_skip (tb_bad (by simp [AV.bel]; omega))) ?_
    refine Gh_nil ?_
    refine W_seq ?_
    refine W_gh ?_
    refine W_reg ?_
    refine O_lda q4 (by kernel_rfl) rfl ?_
    refine O_st (o := 0) (sz := 2) (cs := [.i 0, .ro []]) (id := H.length + 1) [.i (N : Int), .own bo (N + 1) 0 (N + 1)] [.i (N : Int), .own bo (N + 1) 0 (N + 1)] q2 ?_
    refine O_nil ?_
    refine Gh_e ⟨⟨72, [(2, .po (H.length + 1) 0)]⟩, H4.set (H.length + 1) (.lv 2 [.i (N : Int), .own bo (N + 1) 0 (N + 1)])⟩ ?_
    refine W_ret ?_
    refine ⟨[.agg [.i (N : Int), .own bo (N + 1) 0 (N + 1)]], res_box rfl (sq_self q2) rfl rfl, hk bo rid mo _ ((q5.set (by omega)).low (by omega)) (fun i j hi hj => ?_) (q3.set (by omega))⟩
    rw [q6 i j hi hj]
    unfold pathL
    rw [h.sq.1, matO_ent hi hj]
end G11

namespace G11
open Go hiding Obj mark
open Go.Pl Go.Am Go.Am.As
set_option linter.unusedVariables false

theorem p49 {N : Nat} {l : List (List Int)} (h : Rt N l) : Pt E0 hp 49 [.agg [.i (N : Int), .ro (l.map (cL cI_i64))]] (.bool (possL l)) := by
  have hN := h.hN
  refine Pt_W fn49 rfl (by decide) ?_
  refine W_seq ?_
  refine W_gh ?_
  refine W_reg ?_
  refine O_p 2 ?_
  refine O_nil ?_
  refine Gh_e ⟨⟨22, [(1, .po 0 0)]⟩, [bb N l]⟩ ?_
  refine W_seq ?_
  refine W_gh ?_
  refine W_reg ?_
  refine O_p 1 ?_
  refine O_wc (xs := [.agg [.i (N : Int), .ro (l.map (cL cI_i64))]]) (by kernel_rfl) (by kernel_rfl) ?_
  refine paths_eq h (fun b rid m H1 hnc hm hf => ?_)
  replace hf : Fr 1 [bb N l] H1 := hf
  have h0 : H1[0]? = some (.lv 2 [.i (N : Int), .ro (l.map (cL cI_i64))]) := hf 0 (by omega)
  refine O_alloc (sz := 2) H1.length (H1 ++ [.lv 2 [.i 0, .nils]]) rfl ?_
  refine O_st (o := 0) (sz := 2) (cs := [.i 0, .nils]) (id := H1.length) [.i (N : Int), .own b (N + 1) 0 (N + 1)] [.i (N : Int), .own b (N + 1) 0 (N + 1)] get_last ?_
  refine O_nil ?_
  rw [show (H1 ++ [Obj.lv 2 [.i 0, .nils]]).set H1.length (.lv 2 [.i (N : Int), .own b (N + 1) 0 (N + 1)]) = H1 ++ [.lv 2 [.i (N : Int), .own b (N + 1) 0 (N + 1)]] by simp]
  refine Gh_one (s1 := ⟨⟨22, [(1, .po 0 0), (3, .po H1.length 0)]⟩, H1 ++ [.lv 2 [.i (N : Int), .own b (N + 1) 0 (N + 1)]]⟩) (by kernel_rfl) ?_
  refine Gh_wkp (id := H1.length) (cs' := [.i (N : Int), .own b (N + 1) 0 (N + 1)]) get_last rfl rfl rfl ?_
  refine Gh_nil ?_
  show W E0 hp _ _ _ _ _ ⟨_, (H1 ++ [Obj.lv 2 [.i (N : Int), .own b (N + 1) 0 (N + 1)]]).set H1.length (.lv 2 [.i (N : Int), .own b (N + 1) 0 (N + 1)])⟩
  rw [show (H1 ++ [Obj.lv 2 [.i (N : Int), .own b (N + 1) 0 (N + 1)]]).set H1.length (.lv 2 [.i (N : Int), .own b (N + 1) 0 (N + 1)]) = H1 ++ [.lv 2 [.i (N : Int), .own b (N + 1) 0 (N + 1)]] by simp]
  have t0 : (H1 ++ [Obj.lv 2 [.i (N : Int), .own b (N + 1) 0 (N + 1)]])[0]? = some (.lv 2 [.i (N : Int), .ro (l.map (cL cI_i64))]) := get_app h0
  have t1 : (H1 ++ [Obj.lv 2 [.i (N : Int), .own b (N + 1) 0 (N + 1)]])[H1.length]? = some (.lv 2 [.i (N : Int), .own b (N + 1) 0 (N + 1)]) := get_last
  have t2 : MatV (H1 ++ [Obj.lv 2 [.i (N : Int), .own b (N + 1) 0 (N + 1)]]) (.own b (N + 1) 0 (N + 1)) (N + 1) m := hnc.mat.ext Fr.app
  generalize H1 ++ [Obj.lv 2 [.i (N : Int), .own b (N + 1) 0 (N + 1)]] = H2 at t0 t1 t2 ⊢
  generalize H1.length = A at t1 ⊢
  refine W_seq ?_
  refine W_seq ?_
  refine W_reg ?_
  refine O_q 1 ?_
  refine O_nil ?_
  refine W_gh (W_block ?_)
  refine W_lp (fun s' => ∃ i : Nat, s' = ⟨⟨22, [(1, .po 0 0), (3, .po A 0), (4, .i (i : Int))]⟩, H2⟩ ∧ i ≤ N + 1 ∧ ∀ a, a < i → ¬ ent (pathL l) a a < 0) (fun s' => match s'.tmps.get 4 with | .int _ k => N + 1 - k.toNat | _ => 0) ⟨0, rfl, by omega, fun a ha => by omega⟩ ?_
  rintro s' ⟨i, rfl, hi, hno⟩
  refine W_gh ?_
  refine W_seq ?_
  refine W_seq ?_
  refine W_gh ?_
  refine W_reg ?_
  refine O_q 2 ?_
  refine O_ldb (o := 0) t0 (by kernel_rfl) rfl ?_
  refine O_q 1 ?_
  refine O_nil ?_
  refine Gh_e ⟨⟨22, [(1, .po 0 0), (3, .po A 0), (4, .i (i : Int)), (10, .bool (decide ((i : Int) ≤ (N : Int))))]⟩, H2⟩ ?_
  refine W_gh ?_
  refine W_cond (c := decide ((i : Int) ≤ (N : Int))) (by kernel_rfl) (fun c => ?_) (fun c => ?_)
  · have c3 : i < N + 1 := by have := of_decide_eq_true c; omega
    refine W_skip ?_
    refine Gh_e ⟨⟨22, [(1, .po 0 0), (3, .po A 0), (4, .i (i : Int))]⟩, H2⟩ ?_
    refine W_seq ?_
    refine W_gh ?_
    refine W_block ?_
    refine W_seq ?_
    refine W_gh ?_
    refine W_reg ?_
    refine O_q 1 ?_
    refine O_ldb (o := 1) t1 (by kernel_rfl) rfl ?_
    refine O_q 1 ?_
    refine O_row (v := .own b (N + 1) 0 (N + 1)) (i := i) t2 c3 (fun pa ra hra => ?_)
    refine O_q 1 ?_
    refine O_el (j := i) hra c3 (fun pb => ?_)
    rw [hm i i c3 c3]
    refine O_q 1 ?_
    refine O_nil ?_
    refine Gh_e ⟨⟨22, [(1, .po 0 0), (3, .po A 0), (4, .i (i : Int)), (21, .bool (decide (ent (pathL l) i i < 0)))]⟩, H2⟩ ?_
    refine W_gh ?_
    refine W_cond (c := decide (ent (pathL l) i i < 0)) (by kernel_rfl) (fun c4 => ?_) (fun c4 => ?_)
    · have hp : possL l = false := by
        unfold possL
        rw [List.all_eq_false]
        exact ⟨i, List.mem_range.2 (by rw [h.sq.1]; exact c3), by rw [c4]; decide⟩
      rw [hp]
      refine W_seq ?_
      refine W_reg ?_
      refine O_q 1 ?_
      refine O_nil ?_
      refine W_ret ?_
      exact Fin_free (l := [.bool false]) (by kernel_rfl) rfl rfl
    · refine W_skip ?_
      refine Gh_e ⟨⟨22, [(1, .po 0 0), (3, .po A 0), (4, .i (i : Int))]⟩, H2⟩ ?_
      refine Gh_e ⟨⟨22, [(1, .po 0 0), (3, .po A 0), (4, .i (i : Int))]⟩, H2⟩ ?_
      refine W_gh ?_
      refine W_reg ?_
      refine O_q 3 ?_
      refine O_nil ?_
      refine Gh_e ⟨⟨22, [(1, .po 0 0), (3, .po A 0), (4, .i (addI .i64 (i : Int) 1))]⟩, H2⟩ ?_
      rw [addI_nat (k := i) (by omega)]
      refine Gh_e ⟨⟨22, [(1, .po 0 0), (3, .po A 0), (4, .i ((i + 1 : Nat) : Int))]⟩, H2⟩ ?_
      refine ⟨⟨i + 1, rfl, by omega, fun a ha => ?_⟩, ?_⟩
      · by_cases e : a = i
        · subst e; exact of_decide_eq_false c4
        · exact hno a (by omega)
      · show N + 1 - (((i + 1 : Nat) : Int)).toNat < N + 1 - ((i : Int)).toNat
        omega
  · have c3 := of_decide_eq_false c
    obtain rfl : i = N + 1 := by omega
    have hp : possL l = true := by
      unfold possL
      rw [List.all_eq_true]
      intro a ha
      have := hno a (by have := List.mem_range.1 ha; rw [h.sq.1] at this; exact this)
      simp [this]
    rw [hp]
    refine W_exit ?_
    refine X_hit ?_
    refine Gh_e ⟨⟨22, []⟩, H2⟩ ?_
    refine W_seq ?_
    refine W_reg ?_
    refine O_q 1 ?_
    refine O_nil ?_
    refine W_ret ?_
    exact Fin_free (l := [.bool true]) (by kernel_rfl) rfl rfl

theorem bigE_eq2 (x : Int) : m65 x = some (!bigE x) ∨ x = -1099511627776 := by
  by_cases h : x = -1099511627776
  · exact .inr h
  · left
    have : (x != -1099511627776) = true := by simpa using h
    simp [m65, bigE, this]

theorem checked_eq {N : Nat} {v : AV} {m : Nat → Nat → Int} {H : List Obj} {K : AV → List Obj → Prop} (hN : N + 1 ≤ 100) (hv : MatV H v (N + 1) m)
    (h1 : ∀ H', bigB (N + 1) m (N + 1) 0 → Fr H.length H H' → K (.tup [.agg [.i 0, .ro []], .i 11]) H')
    (h2 : ∀ H', ¬ bigB (N + 1) m (N + 1) 0 → Fr H.length H H' → K (.tup [.agg [.i (N : Int), v], .i 0]) H') : WC E0 hp false 50 [.agg [.i (N : Int), v]] H K := by
  refine W_call fn50 (.inl rfl) rfl (by decide) ?_
  have hv1 := hv.one
  have ho : allOne [.i (N : Int), v] = true := by show (true && (v.one && true)) = true; rw [hv1.1]; rfl
  refine W_seq ?_
  refine W_gh ?_
  refine W_reg ?_
  refine O_box (cs := [.i (N : Int), v]) (sz := 2) H.length (H ++ [.lv 2 [.i (N : Int), v]]) (by kernel_rfl) rfl ?_ (h1 := ho)
  refine O_alloc (sz := 2) (H.length + 1) (H ++ [.lv 2 [.i (N : Int), v], .lv 2 [.i 0, .nils]]) rfl ?_
  refine O_q 1 ?_
  refine O_nil ?_
  refine Gh_one (s1 := ⟨⟨36, [(1, .po H.length 0), (2, .po (H.length + 1) 0)]⟩, H ++ [.lv 2 [.i (N : Int), v], .lv 2 [.i 0, .nils]]⟩) (by kernel_rfl) ?_
  refine Gh_wkp (id := H.length + 1) (cs' := [.i 0, .ro []]) (get_end 1 rfl) rfl rfl rfl ?_
  refine Gh_nil ?_
  have e1 : (H ++ [Obj.lv 2 [.i (N : Int), v], .lv 2 [.i 0, .nils]]).set (H.length + 1) (.lv 2 [.i 0, .ro []]) = H ++ [.lv 2 [.i (N : Int), v], .lv 2 [.i 0, .ro []]] := by simp
  show W E0 hp _ _ _ _ _ ⟨_, (H ++ [Obj.lv 2 [.i (N : Int), v], .lv 2 [.i 0, .nils]]).set (H.length + 1) (.lv 2 [.i 0, .ro []])⟩
  rw [e1]
  have t0 : (H ++ [Obj.lv 2 [.i (N : Int), v], .lv 2 [.i 0, .ro []]])[H.length]? = some (.lv 2 [.i (N : Int), v]) := get_end 0 rfl
  have t1 : (H ++ [Obj.lv 2 [.i (N : Int), v], .lv 2 [.i 0, .ro []]])[H.length + 1]? = some (.lv 2 [.i 0, .ro []]) := get_end 1 rfl
  have t2 : MatV (H ++ [Obj.lv 2 [.i (N : Int), v], .lv 2 [.i 0, .ro []]]) v (N + 1) m := hv.ext Fr.app
  have t3 : Fr H.length H (H ++ [Obj.lv 2 [.i (N : Int), v], .lv 2 [.i 0, .ro []]]) := Fr.app
  generalize H ++ [Obj.lv 2 [.i (N : Int), v], .lv 2 [.i 0, .ro []]] = H2 at t0 t1 t2 t3 ⊢
  refine W_seq ?_
  refine W_seq ?_
  refine W_reg ?_
  refine O_q 1 ?_
  refine O_nil ?_
  refine W_gh (W_block ?_)
  refine W_lp (fun s' => ∃ i : Nat, s' = ⟨⟨36, [(1, .po H.length 0), (2, .po (H.length + 1) 0), (4, .i (i : Int))]⟩, H2⟩ ∧ i ≤ N + 1 ∧ ¬ bigB (N + 1) m i 0) (fun s' => match s'.tmps.get 4 with | .int _ k => N + 1 - k.toNat | _ => 0) ⟨0, rfl, by omega, fun ⟨a, b, _, _, h, _⟩ => by omega⟩ ?_
  rintro s' ⟨i, rfl, hi, hno⟩
  refine W_gh ?_
  refine W_seq ?_
  refine W_seq ?_
  refine W_gh ?_
  refine W_reg ?_
  refine O_q 2 ?_
  refine O_ldb (o := 0) t0 (by kernel_rfl) rfl ?_
  refine O_q 1 ?_
  refine O_nil ?_
  refine Gh_e ⟨⟨36, [(1, .po H.length 0), (2, .po (H.length + 1) 0), (4, .i (i : Int)), (10, .bool (decide ((i : Int) ≤ (N : Int))))]⟩, H2⟩ ?_
  refine W_gh ?_
  refine W_cond (c := decide ((i : Int) ≤ (N : Int))) (by kernel_rfl) (fun c => ?_) (fun c => ?_)
  · have c3 : i < N + 1 := by have := of_decide_eq_true c; omega
    refine W_skip ?_
    refine Gh_e ⟨⟨36, [(1, .po H.length 0), (2, .po (H.length + 1) 0), (4, .i (i : Int))]⟩, H2⟩ ?_
    refine W_seq ?_
    refine W_gh ?_
    refine W_block ?_
    refine W_seq ?_
    refine W_reg ?_
    refine O_q 1 ?_
    refine O_nil ?_
    refine W_gh (W_block ?_)
    refine W_lp (fun s' => ∃ j : Nat, s' = ⟨⟨36, [(1, .po H.length 0), (2, .po (H.length + 1) 0), (4, .i (i : Int)), (5, .i (j : Int))]⟩, H2⟩ ∧ j ≤ N + 1 ∧ ¬ bigB (N + 1) m i j) (fun s' => match s'.tmps.get 5 with | .int _ k => N + 1 - k.toNat | _ => 0) ⟨0, rfl, by omega, hno⟩ ?_
    rintro s' ⟨j, rfl, hj, hno⟩
    refine W_gh ?_
    refine W_seq ?_
    refine W_seq ?_
    refine W_gh ?_
    refine W_reg ?_
    refine O_q 2 ?_
    refine O_ldb (o := 0) t0 (by kernel_rfl) rfl ?_
    refine O_q 1 ?_
    refine O_nil ?_
    refine Gh_e ⟨⟨36, [(1, .po H.length 0), (2, .po (H.length + 1) 0), (4, .i (i : Int)), (5, .i (j : Int)), (16, .bool (decide ((j : Int) ≤ (N : Int))))]⟩, H2⟩ ?_
    refine W_gh ?_
    refine W_cond (c := decide ((j : Int) ≤ (N : Int))) (by kernel_rfl) (fun c => ?_) (fun c => ?_)
    · have c4 : j < N + 1 := by have := of_decide_eq_true c; omega
      refine W_skip ?_
      refine Gh_e ⟨⟨36, [(1, .po H.length 0), (2, .po (H.length + 1) 0), (4, .i (i : Int)), (5, .i (j : Int))]⟩, H2⟩ ?_
      refine W_seq ?_
      refine W_gh ?_
      refine W_block ?_
      refine W_seq ?_
      refine W_gh ?_
      refine W_reg ?_
      refine O_q 1 ?_
      refine O_ldb (o := 1) t0 (by kernel_rfl) rfl ?_
      refine O_q 1 ?_
      refine O_row (v := v) (i := i) t2 c3 (fun pa ra hra => ?_)
      refine O_q 1 ?_
      refine O_el (j := j) hra c4 (fun pb => ?_)
      generalize hx : m i j = x
      refine O_q 1 ?_
      refine O_nil ?_
      refine Gh_e ⟨⟨36, [(1, .po H.length 0), (2, .po (H.length + 1) 0), (4, .i (i : Int)), (5, .i (j : Int)), (6, .i x)]⟩, H2⟩ ?_
      have hnext : bigE x = false → ¬ bigB (N + 1) m i (j + 1) := by
        rintro hb ⟨a, b, ha, hb', hlt, hbig⟩
        by_cases e : a = i ∧ b = j
        · obtain ⟨rfl, rfl⟩ := e; rw [hx, hb] at hbig; cases hbig
        · exact hno ⟨a, b, ha, hb', by omega, hbig⟩
      have hfin : W E0 hp (.gh [] (.cond (.t 33) (.seq (.gh [] (.reg [L11.o 34 (.build [.int .i64 0, .nils] []), L11.u (.store 2 (.t 2) (.t 34)), L11.o 3 (.mov (.c (.int .i64 11)))]) [.kill [34], .wk [2]]) .ret) .skip) [.kill [3, 33]]) H.length (fun s' => bigE x = false ∧ s' = ⟨⟨36, [(1, .po H.length 0), (2, .po (H.length + 1) 0), (4, .i (i : Int)), (5, .i (j : Int))]⟩, H2⟩) (fun _ _ => False)
          (fun s' => ∃ l, resultsT [.inr (2, 2, true), .inl 3] s' = some l ∧ K (oneOf l) s'.H) ⟨⟨36, [(1, .po H.length 0), (2, .po (H.length + 1) 0), (4, .i (i : Int)), (5, .i (j : Int)), (33, .bool (bigE x))]⟩, H2⟩ := by
        refine W_gh ?_
        refine W_cond (c := bigE x) (by kernel_rfl) (fun c1 => ?_) (fun c1 => ?_)
        · have hbig : bigB (N + 1) m (N + 1) 0 := ⟨i, j, c3, c4, .inl c3, by rw [hx]; exact c1⟩
          rw [c1]
          refine W_seq ?_
          refine W_gh ?_
          refine W_reg ?_
          refine O_q 1 ?_
          refine O_st (o := 0) (sz := 2) (cs := [.i 0, .ro []]) (id := H.length + 1) [.i 0, .nils] [.i 0, .nils] t1 ?_
          refine O_q 1 ?_
          refine O_nil ?_
          refine Gh_one (s1 := ⟨⟨36, [(1, .po H.length 0), (2, .po (H.length + 1) 0), (3, .i 11), (4, .i (i : Int)), (5, .i (j : Int)), (33, .bool true)]⟩, H2.set (H.length + 1) (.lv 2 [.i 0, .nils])⟩) (by kernel_rfl) ?_
          refine Gh_wkp (id := H.length + 1) (cs' := [.i 0, .ro []]) (sq_self t1) rfl rfl rfl ?_
          refine Gh_nil ?_
          show W E0 hp _ _ _ _ _ ⟨_, (H2.set (H.length + 1) (.lv 2 [.i 0, .nils])).set (H.length + 1) (.lv 2 [.i 0, .ro []])⟩
          rw [set_set]
          refine W_ret ?_
          exact ⟨[.agg [.i 0, .ro []], .i 11], res_box rfl (sq_self t1) rfl rfl, h1 _ hbig (t3.set (by omega))⟩
        · refine W_skip ?_
          refine Gh_e _ ⟨c1, rfl⟩ (by kernel_rfl)
      refine W_seq ?_
      refine W_gh ?_
      refine W_reg ?_
      refine O_q 3 ?_
      have hafter : ∀ s' : ST, (bigE x = false ∧ s' = ⟨⟨36, [(1, .po H.length 0), (2, .po (H.length + 1) 0), (4, .i (i : Int)), (5, .i (j : Int))]⟩, H2⟩) → ¬ bigB (N + 1) m i (j + 1) ∧ s' = ⟨⟨36, [(1, .po H.length 0), (2, .po (H.length + 1) 0), (4, .i (i : Int)), (5, .i (j : Int))]⟩, H2⟩ := fun s' h => ⟨hnext h.1, h.2⟩
      refine O_fork (n := 29) (x != -1099511627776) (by kernel_rfl) (fun c => ?_) (fun c => ?_)
      · have c1 : x ≠ -1099511627776 := by simpa using c
        refine O_q 1 ?_
        refine O_pt (xs := [.i x]) (by kernel_rfl) rfl rfl (p65 x _ ((bigE_eq2 x).resolve_right c1)) ?_
        refine O_q 2 ?_
        refine O_nil ?_
        refine Gh_e ⟨⟨36, [(1, .po H.length 0), (2, .po (H.length + 1) 0), (4, .i (i : Int)), (5, .i (j : Int)), (33, .bool (!!bigE x))]⟩, H2⟩ ?_
        rw [Bool.not_not]
        refine hfin.mono (fun s' hs' => ?_) (fun _ _ h => h.elim) (fun _ h => h)
        obtain ⟨hn2, rfl⟩ := hafter s' hs'
        refine Gh_e ⟨⟨36, [(1, .po H.length 0), (2, .po (H.length + 1) 0), (4, .i (i : Int)), (5, .i (j : Int))]⟩, H2⟩ ?_
        refine W_gh ?_
        refine W_reg ?_
        refine O_q 3 ?_
        refine O_nil ?_
        refine Gh_e ⟨⟨36, [(1, .po H.length 0), (2, .po (H.length + 1) 0), (4, .i (i : Int)), (5, .i (addI .i64 (j : Int) 1))]⟩, H2⟩ ?_
        rw [addI_nat (k := j) (by omega)]
        refine Gh_e ⟨⟨36, [(1, .po H.length 0), (2, .po (H.length + 1) 0), (4, .i (i : Int)), (5, .i ((j + 1 : Nat) : Int))]⟩, H2⟩ ?_
        refine ⟨⟨j + 1, rfl, by omega, hn2⟩, ?_⟩
        show N + 1 - (((j + 1 : Nat) : Int)).toNat < N + 1 - ((j : Int)).toNat
        omega
      · have c1 : x = -1099511627776 := by simpa using c
        have hbf : bigE x = false := by rw [c1]; rfl
        refine O_q 4 ?_
        refine O_nil ?_
        refine Gh_e ⟨⟨36, [(1, .po H.length 0), (2, .po (H.length + 1) 0), (4, .i (i : Int)), (5, .i (j : Int)), (33, .bool false)]⟩, H2⟩ ?_
        rw [hbf] at hfin
        refine hfin.mono (fun s' hs' => ?_) (fun _ _ h => h.elim) (fun _ h => h)
        obtain ⟨hn2, rfl⟩ := hafter s' ⟨hbf, hs'.2⟩
        refine Gh_e ⟨⟨36, [(1, .po H.length 0), (2, .po (H.length + 1) 0), (4, .i (i : Int)), (5, .i (j : Int))]⟩, H2⟩ ?_
        refine W_gh ?_
        refine W_reg ?_
        refine O_q 3 ?_
        refine O_nil ?_
        refine Gh_e ⟨⟨36, [(1, .po H.length 0), (2, .po (H.length + 1) 0), (4, .i (i : Int)), (5, .i (addI .i64 (j : Int) 1))]⟩, H2⟩ ?_
        rw [addI_nat (k := j) (by omega)]
        refine Gh_e ⟨⟨36, [(1, .po H.length 0), (2, .po (H.length + 1) 0), (4, .i (i : Int)), (5, .i ((j + 1 : Nat) : Int))]⟩, H2⟩ ?_
        refine ⟨⟨j + 1, rfl, by omega, hn2⟩, ?_⟩
        show N + 1 - (((j + 1 : Nat) : Int)).toNat < N + 1 - ((j : Int)).toNat
        omega
    · have c4 := of_decide_eq_false c
      obtain rfl : j = N + 1 := by omega
      refine W_exit ?_
      refine X_hit ?_
      refine Gh_e ⟨⟨36, [(1, .po H.length 0), (2, .po (H.length + 1) 0), (4, .i (i : Int))]⟩, H2⟩ ?_
      refine Gh_e ⟨⟨36, [(1, .po H.length 0), (2, .po (H.length + 1) 0), (4, .i (i : Int))]⟩, H2⟩ ?_
      refine W_gh ?_
      refine W_reg ?_
      refine O_q 3 ?_
      refine O_nil ?_
      refine Gh_e ⟨⟨36, [(1, .po H.length 0), (2, .po (H.length + 1) 0), (4, .i (addI .i64 (i : Int) 1))]⟩, H2⟩ ?_
      rw [addI_nat (k := i) (by omega)]
      refine Gh_e ⟨⟨36, [(1, .po H.length 0), (2, .po (H.length + 1) 0), (4, .i ((i + 1 : Nat) : Int))]⟩, H2⟩ ?_
      refine ⟨⟨i + 1, rfl, by omega, fun ⟨a, b, ha, hb, hlt, hbig⟩ => hno ⟨a, b, ha, hb, by omega, hbig⟩⟩, ?_⟩
      show N + 1 - (((i + 1 : Nat) : Int)).toNat < N + 1 - ((i : Int)).toNat
      omega
  · have c3 := of_decide_eq_false c
    obtain rfl : i = N + 1 := by omega
    refine W_exit ?_
    refine X_hit ?_
    refine Gh_e ⟨⟨36, [(1, .po H.length 0), (2, .po (H.length + 1) 0)]⟩, H2⟩ ?_
    refine W_seq ?_
    refine W_gh ?_
    refine W_reg ?_
    refine O_lda t0 (by kernel_rfl) rfl ?_
    refine O_st (o := 0) (sz := 2) (cs := [.i 0, .ro []]) (id := H.length + 1) [.i (N : Int), v] [.i (N : Int), v] t1 ?_ (h1 := ho)
    refine O_q 1 ?_
    refine O_nil ?_
    refine Gh_e ⟨⟨36, [(2, .po (H.length + 1) 0), (3, .i 0)]⟩, H2.set (H.length + 1) (.lv 2 [.i (N : Int), v])⟩ ?_
    refine W_ret ?_
    exact ⟨[.agg [.i (N : Int), v], .i 0], res_box rfl (sq_self t1) rfl rfl, h2 _ hno (t3.set (by omega))⟩
end G11

namespace G11
open Go hiding Obj mark
open Go.Pl Go.Am Go.Am.As
set_option linter.unusedVariables false

end G11

namespace G11
open Go hiding Obj mark
open Go.Pl Go.Am Go.Am.As
set_option linter.unusedVariables false

end G11

namespace G11
open Go hiding Obj mark
open Go.Pl Go.Am Go.Am.As
set_option linter.unusedVariables false

theorem one_eq {a0 : SBounds} {a1 c : Int} {H : List Obj} {K : AV → List Obj → Prop} (e32 : m32 a0 = some c) (hR : c = 0 → Right a0) (h6 : c = 0 → 1 ≤ a1 → a1 ≤ a0.N → ¬ a0.N > 6)
    (h1 : ∀ H', c ≠ 0 → Fr H.length H H' → K (.tup [.nilp, .i c]) H') (h2 : ∀ H', c = 0 → (decide (a1 < 1) || decide (a1 > a0.N)) = true → Fr H.length H H' → K (.tup [.nilp, .i 2]) H')
    (h3 : ∀ H' y, c = 0 → (decide (a1 < 1) || decide (a1 > a0.N)) = false → solve a0.Most = .inl y → Fr H.length H H' → K (.tup [.nilp, .i 16]) H')
    (h4 : ∀ N k q H' m d, c = 0 → a0.N = ((N : Nat) : Int) → a1 = ((k : Nat) : Int) → 1 ≤ k → k ≤ N → Rt N a0.Most → solve a0.Most = .inr d → (∀ i j, i < N + 1 → j < N + 1 → m i j = ent d i j) → H.length < q → H'[q]? = some (sqo (N + 1) m) → Fr H.length H H' → K (.tup [.po q 0, .i 0]) H') :
    WC E0 hp false 55 [.agg (cSBounds a0), .i a1] H K := by
  refine W_call fn55 (.inl rfl) rfl (by decide) ?_
  refine W_seq ?_
  refine W_gh ?_
  refine W_reg ?_
  refine O_box (cs := cSBounds a0) (sz := 2) H.length (H ++ [.lv 2 (cSBounds a0)]) (by kernel_rfl) rfl ?_ (by simp) rfl
  refine O_q 2 ?_
  refine O_nil ?_
  refine Gh_e ⟨⟨30, [(1, .i a1), (2, .po H.length 0)]⟩, H ++ [.lv 2 (cSBounds a0)]⟩ ?_
  have g0 : (H ++ [Obj.lv 2 (cSBounds a0)])[H.length]? = some (.lv 2 [.i a0.N, .ro (a0.Most.map (cL cI_i64))]) := get_last
  have g1 : Fr H.length H (H ++ [Obj.lv 2 (cSBounds a0)]) := Fr.app
  have g2 : (H ++ [Obj.lv 2 (cSBounds a0)]).length = H.length + 1 := by simp
  generalize H ++ [Obj.lv 2 (cSBounds a0)] = H1 at g0 g1 g2 ⊢
  refine W_seq ?_
  refine W_seq ?_
  refine W_gh ?_
  refine W_reg ?_
  refine O_lda g0 (by kernel_rfl) rfl ?_
  refine O_pt (xs := [.agg (cSBounds a0)]) (by kernel_rfl) (bels_cons (okSBounds.bel a0) rfl) rfl (p32 a0 c e32) ?_
  refine O_q 1 ?_
  refine O_nil ?_
  refine Gh_e ⟨⟨30, [(1, .i a1), (2, .po H.length 0), (6, .i c)]⟩, H1⟩ ?_
  refine W_seq ?_
  refine W_gh ?_
  refine W_reg ?_
  refine O_q 2 ?_
  refine O_nil ?_
  refine Gh_e ⟨⟨30, [(1, .i a1), (2, .po H.length 0), (6, .i c), (12, .bool (c != 0))]⟩, H1⟩ ?_
  refine W_gh ?_
  refine W_cond (c := (c != 0)) (by kernel_rfl) (fun hc => ?_) (fun hc => ?_)
  · refine W_seq ?_
    refine W_gh ?_
    refine W_reg ?_
    refine O_q 3 ?_
    refine O_nil ?_
    refine Gh_e ⟨⟨30, [(1, .i a1), (2, .po H.length 0), (4, .nilp), (5, .i c), (12, .bool (c != 0))]⟩, H1⟩ ?_
    refine W_ret ?_
    exact ⟨[.nilp, .i c], by kernel_rfl, h1 H1 (by simpa using hc) g1⟩
  have hc0 : c = 0 := by simpa using hc
  subst hc0
  refine W_skip ?_
  refine Gh_e ⟨⟨30, [(1, .i a1), (2, .po H.length 0)]⟩, H1⟩ ?_
  refine W_seq ?_
  refine W_seq ?_
  refine W_gh ?_
  refine W_reg ?_
  have hbad : (decide (a1 < 1) || decide (a1 > a0.N)) = true → W E0 hp (.seq (.reg [L11.o 4 (.mov (.c .nilp)), L11.o 5 (.mov (.c (.int .i64 2)))]) .ret) H.length (fun _ => False) (fun _ _ => False) (fun s' => ∃ l, resultsT [.inl 4, .inl 5] s' = some l ∧ K (oneOf l) s'.H) ⟨⟨30, [(2, .po H.length 0), (21, .bool true)]⟩, H1⟩ := by
    intro hcc
    refine W_seq ?_
    refine W_reg ?_
    refine O_q 2 ?_
    refine O_nil ?_
    refine W_ret ?_
    exact ⟨[.nilp, .i 2], by kernel_rfl, h2 H1 rfl hcc g1⟩
  refine O_q 3 ?_
  refine O_fork (n := 16) (decide (a1 < 1)) (by kernel_rfl) (fun c1 => ?_) (fun c1 => ?_)
  · refine O_q 5 ?_
    refine O_nil ?_
    refine Gh_e ⟨⟨30, [(2, .po H.length 0), (21, .bool true)]⟩, H1⟩ ?_
    refine W_gh ?_
    refine W_cond (c := true) (by kernel_rfl) (fun _ => ?_) (fun c => by simp at c)
    exact (hbad (by rw [c1]; rfl)).mono (fun _ h => h.elim) (fun _ _ h => h.elim) (fun _ h => h)
  refine O_q 2 ?_
  refine O_ldb (o := 0) g0 (by kernel_rfl) rfl ?_
  refine O_q 2 ?_
  refine O_nil ?_
  refine Gh_e ⟨⟨30, [(2, .po H.length 0), (21, .bool (decide (a1 > a0.N)))]⟩, H1⟩ ?_
  refine W_gh ?_
  refine W_cond (c := decide (a1 > a0.N)) (by kernel_rfl) (fun c2 => ?_) (fun c2 => ?_)
  · rw [c2]
    exact (hbad (by rw [c2]; simp)).mono (fun _ h => h.elim) (fun _ _ h => h.elim) (fun _ h => h)
  have hor : (decide (a1 < 1) || decide (a1 > a0.N)) = false := by rw [c1, c2]; rfl
  have d1 := of_decide_eq_false c1
  have d2 := of_decide_eq_false c2
  obtain ⟨N, hN, hrt⟩ := (hR rfl).rt (h6 rfl (by omega) (by omega))
  obtain ⟨k, rfl⟩ : ∃ k : Nat, a1 = (k : Int) := ⟨a1.toNat, by omega⟩
  have hcs : cSBounds a0 = [.i (N : Int), .ro (a0.Most.map (cL cI_i64))] := by rw [cSB, hN]
  refine W_skip ?_
  refine Gh_e ⟨⟨30, [(2, .po H.length 0)]⟩, H1⟩ ?_
  refine W_seq ?_
  refine W_gh ?_
  refine W_reg ?_
  refine O_lda g0 (by kernel_rfl) rfl ?_
  refine O_wc (xs := [.agg [.i (N : Int), .ro (a0.Most.map (cL cI_i64))]]) (by kernel_rfl) (by rw [← hN]; kernel_rfl) ?_
  refine closed_eq hrt (fun c0 cs H' hs hf => ?_) (fun q H' m d hs hm hq hsq hf => ?_)
  · replace hf : Fr H1.length H1 H' := hf
    refine O_q 5 ?_
    refine O_nil ?_
    refine Gh_e ⟨⟨30, [(7, .nilp)]⟩, H'⟩ ?_
    refine W_seq ?_
    refine W_seq ?_
    refine W_gh ?_
    refine W_reg ?_
    refine O_q 2 ?_
    refine O_nil ?_
    refine Gh_e ⟨⟨30, [(7, .nilp), (28, .bool true)]⟩, H'⟩ ?_
    refine W_gh ?_
    refine W_cond (c := true) (by kernel_rfl) (fun _ => ?_) (fun c => by simp at c)
    refine W_seq ?_
    refine W_reg ?_
    refine O_q 2 ?_
    refine O_nil ?_
    refine W_ret ?_
    exact ⟨[.nilp, .i 16], by kernel_rfl, h3 H' _ rfl hor hs (g1.trans hf (by omega))⟩
  · replace hf : Fr H1.length H1 H' := hf
    replace hq : H1.length ≤ q := hq
    refine O_q 5 ?_
    refine O_nil ?_
    refine Gh_e ⟨⟨30, [(7, .po q 0)]⟩, H'⟩ ?_
    refine W_seq ?_
    refine W_seq ?_
    refine W_gh ?_
    refine W_reg ?_
    refine O_q 2 ?_
    refine O_nil ?_
    refine Gh_e ⟨⟨30, [(7, .po q 0), (28, .bool false)]⟩, H'⟩ ?_
    refine W_gh ?_
    refine W_cond (c := false) (by kernel_rfl) (fun c => by simp at c) (fun _ => ?_)
    refine W_skip ?_
    refine Gh_e ⟨⟨30, [(7, .po q 0)]⟩, H'⟩ ?_
    refine W_seq ?_
    refine W_gh ?_
    refine W_reg ?_
    refine O_q 3 ?_
    refine O_nil ?_
    refine Gh_e ⟨⟨30, [(4, .po q 0), (5, .i 0)]⟩, H'⟩ ?_
    refine W_ret ?_
    exact ⟨[.po q 0, .i 0], by kernel_rfl, h4 N k q H' m d rfl hN rfl (by omega) (by omega) hrt hs hm (by omega) hsq (g1.trans hf (by omega))⟩

def fgt (m : Nat → Nat → Int) (i j k : Nat) : Nat → Nat → Int := if j ≠ k ∧ (j = i ∨ k = i) then up2 m j k (-1099511627776) else m
theorem forget_f {id ix sx n i j k : Nat} {m : Nat → Nat → Int} {H : List Obj} {K : AV → List Obj → Prop} (hj : j < 13) (hk : k < 13) (hs : H[id]? = some (sqo n m)) (hix : H[ix]? = some (.lv 1 [.i (i : Int)])) (hsx : H[sx]? = some (.lv 1 [.po id 0]))
    (hK : K (.tup []) (H.set id (sqo n (fgt m i j k)))) : WC E0 hp false 57 [.i (j : Int), .i (k : Int), .po ix 0, .po sx 0] H K := by
  refine W_call fn57 (.inr (snaps_none 2 rfl rfl)) rfl (by decide) ?_
  have hfin : ∀ c : Bool, (c = true ↔ (j ≠ k ∧ (j = i ∨ k = i))) → W E0 hp (.gh [] (.cond (.t 18) (.gh [] (.reg [L11.o 19 (.load 1 false (.t 3)), L11.o 20 (.mov (.t 0)), L11.o 21 (.mov (.t 1)), L11.o 22 (.nchk (.t 19)), L11.o 23 (.fad 1 (.t 22)), L11.o 24 (.iadA 13 13 (.t 23) (.t 20)), L11.o 25 (.iadA 13 1 (.t 24) (.t 21)), L11.u (.store 1 (.t 25) (.c (.int .i64 (-1099511627776))))]) [.kill [0, 1, 3, 19, 20, 21, 22, 23, 24, 25]]) .skip) [.kill [0, 1, 3, 18]]) H.length (fun s' => ∃ l, resultsT [] s' = some l ∧ K (oneOf l) s'.H) (fun _ _ => False) (fun s' => ∃ l, resultsT [] s' = some l ∧ K (oneOf l) s'.H)
      ⟨⟨26, [(0, .i (j : Int)), (1, .i (k : Int)), (3, .po sx 0), (18, .bool c)]⟩, H⟩ := by
    intro c hc
    refine W_gh ?_
    refine W_cond (c := c) (by kernel_rfl) (fun c1 => ?_) (fun c1 => ?_)
    · subst c1
      refine W_gh ?_
      refine W_reg ?_
      refine O_ldb (o := 0) hsx (by kernel_rfl) rfl ?_
      refine O_q 4 ?_
      refine O_sqst (v := -1099511627776) (i := j) (j := k) hj hk hs ?_
      refine O_nil ?_
      refine Gh_e ⟨⟨26, [(18, .bool true)]⟩, H.set id (sqo n (up2 m j k (-1099511627776)))⟩ ?_
      refine Gh_e ⟨⟨26, []⟩, H.set id (sqo n (up2 m j k (-1099511627776)))⟩ ?_
      have : fgt m i j k = up2 m j k (-1099511627776) := by unfold fgt; rw [if_pos (hc.1 rfl)]
      rw [this] at hK
      exact ⟨[], rfl, hK⟩
    · subst c1
      refine W_skip ?_
      refine Gh_e ⟨⟨26, []⟩, H⟩ ?_
      have : fgt m i j k = m := by unfold fgt; rw [if_neg (fun h => by simpa using hc.2 h)]
      rw [this] at hK
      have e : H.set id (sqo n m) = H := by
        obtain ⟨hl, he⟩ := List.getElem?_eq_some_iff.1 hs
        rw [← he]; simp
      rw [e] at hK
      exact ⟨[], rfl, hK⟩
  refine W_seq ?_
  refine W_gh ?_
  refine W_reg ?_
  refine O_q 4 ?_
  refine O_fork (n := 9) ((j : Int) != (k : Int)) (by kernel_rfl) (fun c => ?_) (fun c => ?_)
  · have c1 : j ≠ k := by intro e; subst e; simp at c
    refine O_q 1 ?_
    refine O_ldb (o := 0) hix (by kernel_rfl) rfl ?_
    refine O_q 2 ?_
    refine O_fork (n := 13) ((j : Int) == (i : Int)) (by kernel_rfl) (fun c2 => ?_) (fun c2 => ?_)
    · have c3 : j = i := by have : (j : Int) = (i : Int) := by simpa using c2
                            omega
      refine O_q 5 ?_
      refine O_nil ?_
      refine Gh_e ⟨⟨26, [(0, .i (j : Int)), (1, .i (k : Int)), (3, .po sx 0), (18, .bool true)]⟩, H⟩ ?_
      exact hfin true ⟨fun _ => ⟨c1, .inl c3⟩, fun _ => rfl⟩
    · have c3 : j ≠ i := by intro e; subst e; simp at c2
      refine O_q 1 ?_
      refine O_ldb (o := 0) hix (by kernel_rfl) rfl ?_
      refine O_q 3 ?_
      refine O_nil ?_
      refine Gh_e ⟨⟨26, [(0, .i (j : Int)), (1, .i (k : Int)), (3, .po sx 0), (18, .bool ((k : Int) == (i : Int)))]⟩, H⟩ ?_
      refine hfin _ ⟨fun h => ⟨c1, .inr ?_⟩, fun h => ?_⟩
      · have : (k : Int) = (i : Int) := by simpa using h
        omega
      · rcases h.2 with g | g
        · exact (c3 g).elim
        · subst g; simp
  · have c1 : j = k := by have : (j : Int) = (k : Int) := by simpa using c
                          omega
    refine O_q 9 ?_
    refine O_nil ?_
    refine Gh_e ⟨⟨26, [(0, .i (j : Int)), (1, .i (k : Int)), (3, .po sx 0), (18, .bool false)]⟩, H⟩ ?_
    exact hfin false ⟨fun h => (Bool.false_ne_true h).elim, fun h => (h.1 c1).elim⟩

theorem p23 (a0 : SBounds) (a1 : Int) (r : SBounds × Int) (h : m23 a0 a1 = some r) : Pt E0 hp 23 [.agg (cSBounds a0), .i a1] (.tup [.agg [.i r.1.N, .ro (r.1.Most.map (cL cI_i64))], .i r.2]) := by
  obtain ⟨c, _, e32, hR⟩ := check_eq0 a0
  unfold m23 at h
  rw [e32] at h
  simp only [Option.bind_some] at h
  refine Pt_W fn23 rfl (by decide) ?_
  refine W_seq ?_
  refine W_gh ?_
  refine W_reg ?_
  refine O_p 4 ?_
  refine O_nil ?_
  refine Gh_e ⟨⟨25, [(2, .po 0 0), (3, .po 1 0), (4, .po 2 0)]⟩, [.lv 2 (cSBounds a0), .lv 1 [.i a1], .lv 2 [.i 0, .ro []]]⟩ ?_
  refine W_seq ?_
  -- the region with the call
  let Q : ST → Prop := fun s' => ∃ A H2, Fr 3 [.lv 2 (cSBounds a0), .lv 1 [.i a1], .lv 2 [.i 0, .ro []]] H2 ∧ 3 ≤ A ∧
    ((∃ e : Int, s' = ⟨⟨25, [(3, .po 1 0), (4, .po 2 0), (6, .po A 0), (7, .i e)]⟩, H2⟩ ∧ e ≠ 0 ∧ r = (⟨0, []⟩, e)) ∨
     ∃ (N k q : Nat) (m : Nat → Nat → Int) (d : List (List Int)), s' = ⟨⟨25, [(3, .po 1 0), (4, .po 2 0), (6, .po A 0), (7, .i 0)]⟩, H2⟩ ∧ a0.N = (N : Int) ∧ a1 = (k : Int) ∧ 1 ≤ k ∧ k ≤ N ∧ Rt N a0.Most ∧ solve a0.Most = .inr d ∧ (∀ i j, i < N + 1 → j < N + 1 → m i j = ent d i j) ∧ 3 < q ∧ q ≠ A ∧ H2[q]? = some (sqo (N + 1) m) ∧ H2[A]? = some (.lv 1 [.po q 0]) ∧ r = (bif big (forgetL d a0.Most.length k) then (⟨0, []⟩, 11) else (⟨a0.N, forgetL d a0.Most.length k⟩, 0)))
  have hone : ∀ (v : AV) (e : Int) (H' : List Obj), (v = .nilp ∨ ∃ q, v = .po q 0) → Fr 3 [.lv 2 (cSBounds a0), .lv 1 [.i a1], .lv 2 [.i 0, .ro []]] H' → (∀ H2 : List Obj, Fr 3 [.lv 2 (cSBounds a0), .lv 1 [.i a1], .lv 2 [.i 0, .ro []]] H2 → Fr H'.length H' H2 → H2[H'.length]? = some (.lv 1 [v]) → Q ⟨⟨25, [(3, .po 1 0), (4, .po 2 0), (6, .po H'.length 0), (7, .i e)]⟩, H2⟩) →
      WO E0 hp false [L11.o 8 (.mov (.t 11)), L11.o 12 (.ext (.t 8) 0), L11.o 13 (.ext (.t 8) 1), L11.o 6 (.alloc [.nilp]), L11.u (.store 1 (.t 6) (.t 12)), L11.o 7 (.mov (.t 13))] ((⟨25, [(2, .po 0 0), (3, .po 1 0), (4, .po 2 0), (9, .agg (cSBounds a0)), (10, .i a1)]⟩ : T).put 11 (.tup [v, .i e])) H' (fun t H => Gh 0 [.kill [2, 8, 9, 10, 11, 12, 13]] ⟨t, H⟩ Q) := by
    intro v e H' hv hf hq
    have hl : 3 ≤ H'.length := by have := get_lt (show H'[2]? = some (.lv 2 [.i 0, .ro []]) from hf 2 (by omega)); omega
    have h1 : allOne [v] = true ∧ v.cells = [v] := by rcases hv with rfl | ⟨q, rfl⟩ <;> exact ⟨rfl, rfl⟩
    refine O_q 3 ?_
    refine O_alloc (sz := 1) H'.length (H' ++ [.lv 1 [.nilp]]) rfl ?_
    refine O_st (o := 0) (sz := 1) (cs := [.nilp]) (id := H'.length) [v] [v] get_last ?_ (h1 := h1.1) (hy := by rcases hv with rfl | ⟨q, rfl⟩ <;> kernel_rfl)
    refine O_q 1 ?_
    refine O_nil ?_
    rw [show (H' ++ [Obj.lv 1 [.nilp]]).set H'.length (.lv 1 [v]) = H' ++ [.lv 1 [v]] by simp]
    refine Gh_e _ (hq _ (hf.trans Fr.app hl) Fr.app get_last) (by kernel_rfl)
  refine W.mono (N := Q) (W_gh (W_reg ?_)) (fun s' hs' => ?_) (fun _ _ h => h) (fun _ h => h)
  · refine O_p 2 ?_
    refine O_wc (xs := [.agg (cSBounds a0), .i a1]) (by kernel_rfl) (by kernel_rfl) ?_
    refine one_eq e32 hR (fun hc h1 h2 h6 => ?_) (fun H' hc hf => ?_) (fun H' hc ho hf => ?_) (fun H' y hc ho hs hf => ?_) (fun N k q H' m d hc hN hk h1 h2 hrt hs hm hq hsq hf => ?_)
    · subst hc
      rw [show ((0 : Int) != 0) = false from rfl, cond_false, show (decide (a1 < 1) || decide (a1 > a0.N)) = false by simp; omega, cond_false, decide_eq_true h6, cond_true] at h
      cases h
    · rw [show (c != 0) = true by simpa using hc, cond_true] at h
      injection h with h
      refine O_at (t' := (⟨25, [(2, .po 0 0), (3, .po 1 0), (4, .po 2 0), (9, .agg (cSBounds a0)), (10, .i a1)]⟩ : T).put 11 (.tup [.nilp, .i c])) (by kernel_rfl) rfl ?_
      replace hf : Fr 3 [.lv 2 (cSBounds a0), .lv 1 [.i a1], .lv 2 [.i 0, .ro []]] H' := hf
      have hl : 3 ≤ H'.length := by have := get_lt (show H'[2]? = some (.lv 2 [.i 0, .ro []]) from hf 2 (by decide)); omega
      exact hone .nilp c H' (.inl rfl) hf (fun H2 f1 f2 f3 => ⟨H'.length, H2, f1, hl, .inl ⟨c, rfl, hc, h.symm⟩⟩)
    · subst hc
      rw [show ((0 : Int) != 0) = false from rfl, cond_false, ho, cond_true] at h
      injection h with h
      refine O_at (t' := (⟨25, [(2, .po 0 0), (3, .po 1 0), (4, .po 2 0), (9, .agg (cSBounds a0)), (10, .i a1)]⟩ : T).put 11 (.tup [.nilp, .i 2])) (by kernel_rfl) rfl ?_
      replace hf : Fr 3 [.lv 2 (cSBounds a0), .lv 1 [.i a1], .lv 2 [.i 0, .ro []]] H' := hf
      have hl : 3 ≤ H'.length := by have := get_lt (show H'[2]? = some (.lv 2 [.i 0, .ro []]) from hf 2 (by decide)); omega
      exact hone .nilp 2 H' (.inl rfl) hf (fun H2 f1 f2 f3 => ⟨H'.length, H2, f1, hl, .inl ⟨2, rfl, by decide, h.symm⟩⟩)
    · subst hc
      rw [show ((0 : Int) != 0) = false from rfl, cond_false, ho, cond_false] at h
      have h6 : decide (a0.N > 6) = false := by
        cases e : decide (a0.N > 6) with
        | false => rfl
        | true => rw [e, cond_true] at h; cases h
      rw [h6, cond_false, hs] at h
      injection h with h
      refine O_at (t' := (⟨25, [(2, .po 0 0), (3, .po 1 0), (4, .po 2 0), (9, .agg (cSBounds a0)), (10, .i a1)]⟩ : T).put 11 (.tup [.nilp, .i 16])) (by kernel_rfl) rfl ?_
      replace hf : Fr 3 [.lv 2 (cSBounds a0), .lv 1 [.i a1], .lv 2 [.i 0, .ro []]] H' := hf
      have hl : 3 ≤ H'.length := by have := get_lt (show H'[2]? = some (.lv 2 [.i 0, .ro []]) from hf 2 (by decide)); omega
      exact hone .nilp 16 H' (.inl rfl) hf (fun H2 f1 f2 f3 => ⟨H'.length, H2, f1, hl, .inl ⟨16, rfl, by decide, h.symm⟩⟩)
    · subst hc
      subst hk
      have hN7 := hrt.hN
      rw [show ((0 : Int) != 0) = false from rfl, cond_false, show (decide ((k : Int) < 1) || decide ((k : Int) > a0.N)) = false by simp; omega, cond_false, show decide (a0.N > 6) = false by simp; omega, cond_false, hs, Int.toNat_natCast] at h
      injection h with h
      refine O_at (t' := (⟨25, [(2, .po 0 0), (3, .po 1 0), (4, .po 2 0), (9, .agg (cSBounds a0)), (10, .i (k : Int))]⟩ : T).put 11 (.tup [.po q 0, .i 0])) (by kernel_rfl) rfl ?_
      replace hf : Fr 3 [.lv 2 (cSBounds a0), .lv 1 [.i (k : Int)], .lv 2 [.i 0, .ro []]] H' := hf
      have hl : 3 ≤ H'.length := by have := get_lt (show H'[2]? = some (.lv 2 [.i 0, .ro []]) from hf 2 (by decide)); omega
      have hql := get_lt hsq
      exact hone (.po q 0) 0 H' (.inr ⟨q, rfl⟩) hf (fun H2 f1 f2 f3 => ⟨H'.length, H2, f1, hl, .inr ⟨N, k, q, m, d, rfl, hN, rfl, h1, h2, hrt, hs, hm, hq, by omega, (f2 q hql).trans hsq, f3, h.symm⟩⟩)
  obtain ⟨A, H2, hf, hA, hcase⟩ := hs'
  have hb2 : H2[2]? = some (.lv 2 [.i 0, .ro []]) := hf 2 (by omega)
  have hb1 : H2[1]? = some (.lv 1 [.i a1]) := hf 1 (by omega)
  rcases hcase with ⟨e, rfl, he, rfl⟩ | ⟨N, k, q, m, d, rfl, hN, rfl, hk1, hk2, hrt, hs, hm, hq, hqA, hsq, hAq, hh⟩
  · refine W_seq ?_
    refine W_seq ?_
    refine W_gh ?_
    refine W_reg ?_
    refine O_q 2 ?_
    refine O_nil ?_
    refine Gh_e ⟨⟨25, [(3, .po 1 0), (4, .po 2 0), (6, .po A 0), (7, .i e), (15, .bool (e != 0))]⟩, H2⟩ ?_
    refine W_gh ?_
    refine W_cond (c := (e != 0)) (by kernel_rfl) (fun _ => ?_) (fun c => (he (by simpa using c)).elim)
    refine W_seq ?_
    refine W_gh ?_
    refine W_reg ?_
    refine O_q 2 ?_
    refine O_st (o := 0) (sz := 2) (cs := [.i 0, .ro []]) (id := 2) [.i 0, .nils] [.i 0, .nils] hb2 ?_
    refine O_q 1 ?_
    refine O_nil ?_
    refine Gh_one (s1 := ⟨⟨25, [(3, .po 1 0), (4, .po 2 0), (5, .i e), (6, .po A 0), (15, .bool (e != 0))]⟩, H2.set 2 (.lv 2 [.i 0, .nils])⟩) (by kernel_rfl) ?_
    refine Gh_wkp (id := 2) (cs' := [.i 0, .ro []]) (sq_self hb2) rfl rfl rfl ?_
    refine Gh_nil ?_
    refine W_ret ?_
    exact Fin_free (l := [.agg [.i 0, .ro []], .i e]) (res_box rfl (sq_self (sq_self hb2)) rfl rfl) rfl rfl
  · have hN7 := hrt.hN
    rw [hrt.sq.1] at hh
    have hq3 : 3 < q := hq
    refine W_seq ?_
    refine W_seq ?_
    refine W_gh ?_
    refine W_reg ?_
    refine O_q 2 ?_
    refine O_nil ?_
    refine Gh_e ⟨⟨25, [(3, .po 1 0), (4, .po 2 0), (6, .po A 0), (7, .i 0), (15, .bool false)]⟩, H2⟩ ?_
    refine W_gh ?_
    refine W_cond (c := false) (by kernel_rfl) (fun c => by simp at c) (fun _ => ?_)
    refine W_skip ?_
    refine Gh_e ⟨⟨25, [(3, .po 1 0), (4, .po 2 0), (6, .po A 0)]⟩, H2⟩ ?_
    refine W_seq ?_
    refine W_gh ?_
    refine W_reg ?_
    refine O_ldb (o := 0) hAq (by kernel_rfl) rfl ?_
    refine O_q 1 ?_
    refine O_wc (xs := [.po q 0, .fn 57 [.po 1 0, .po A 0]]) (by kernel_rfl) (by kernel_rfl) ?_
    have hAl := get_lt hAq
    have hql := get_lt hsq
    refine each_eq (n := N + 1) (fun i j H' => H'[1]? = some (.lv 1 [.i (k : Int)]) ∧ H'[2]? = some (.lv 2 [.i 0, .ro []]) ∧ H'[A]? = some (.lv 1 [.po q 0]) ∧ ∃ m', H'[q]? = some (sqo (N + 1) m') ∧ ∀ a b, a < N + 1 → b < N + 1 → m' a b = if (a < i ∨ a = i ∧ b < j) ∧ (a ≠ b ∧ (a = k ∨ b = k)) then -1099511627776 else ent d a b)
      (by omega) (fun i j H' h => by obtain ⟨m, h1, _⟩ := h.2.2.2; exact ⟨m, h1⟩) (fun i j H' h => .inr ?_) ⟨hb1, hb2, hAq, m, hsq, fun a b ha hb => by rw [if_neg (by omega)]; exact hm a b ha hb⟩ ?_ ?_ ?_
    · obtain ⟨h1, h2, h3, m', h4, h5⟩ := h
      exact ⟨get_take h1 (by show 1 < H2.length; omega), get_take h2 (by show 2 < H2.length; omega), get_take h3 hAl, m', get_take h4 hql, h5⟩
    · rintro i j H3 K' hi hj ⟨h1, h2, h3, m', h4, h5⟩ hk'
      refine forget_f (i := k) (by omega) (by omega) h4 h1 h3 ?_
      refine hk' _ ⟨get_ne h1 (by omega), get_ne h2 (by omega), get_ne h3 (by omega), _, sq_self h4, fun a b ha hb => ?_⟩
      unfold fgt
      by_cases hcd : i ≠ j ∧ (i = k ∨ j = k)
      · rw [if_pos hcd]
        by_cases e : a = i ∧ b = j
        · obtain ⟨rfl, rfl⟩ := e
          rw [up2_eq, if_pos ⟨by omega, hcd⟩]
        · rw [up2_ne e, h5 a b ha hb]
          by_cases e2 : (a < i ∨ a = i ∧ b < j) ∧ (a ≠ b ∧ (a = k ∨ b = k))
          · rw [if_pos e2, if_pos ⟨by omega, e2.2⟩]
          · rw [if_neg e2, if_neg (fun g => e2 ⟨by omega, g.2⟩)]
      · rw [if_neg hcd, h5 a b ha hb]
        by_cases e2 : (a < i ∨ a = i ∧ b < j) ∧ (a ≠ b ∧ (a = k ∨ b = k))
        · rw [if_pos e2, if_pos ⟨by omega, e2.2⟩]
        · rw [if_neg e2, if_neg (fun g => ?_)]
          by_cases e : a = i ∧ b = j
          · obtain ⟨rfl, rfl⟩ := e; exact hcd g.2
          · exact e2 ⟨by omega, g.2⟩
    · rintro i H3 hi ⟨h1, h2, h3, m', h4, h5⟩
      refine ⟨h1, h2, h3, m', h4, fun a b ha hb => ?_⟩
      rw [h5 a b ha hb]
      by_cases e2 : (a < i ∨ a = i ∧ b < N + 1) ∧ (a ≠ b ∧ (a = k ∨ b = k))
      · rw [if_pos e2, if_pos ⟨by omega, e2.2⟩]
      · rw [if_neg e2, if_neg (fun g => e2 ⟨by omega, g.2⟩)]
    rintro H3 ⟨f1, f2, f3, m', f4, f5⟩
    have hmat : forgetL d (N + 1) k = matL (N + 1) m' := matL_congr (fun a b ha hb => by
      rw [f5 a b ha hb]
      by_cases e2 : a ≠ b ∧ (a = k ∨ b = k)
      · rw [if_pos e2, if_pos ⟨by omega, e2⟩]
      · rw [if_neg e2, if_neg (fun g => e2 g.2)])
    have hql3 := get_lt f4
    refine O_nil ?_
    refine Gh_e ⟨⟨25, [(4, .po 2 0), (6, .po A 0)]⟩, H3⟩ ?_
    refine W_seq ?_
    refine W_gh ?_
    refine W_reg ?_
    refine O_ldb (o := 0) f3 (by kernel_rfl) rfl ?_
    refine O_wc (xs := [.po q 0]) (by kernel_rfl) (by kernel_rfl) ?_
    refine limited_eq (n := N + 1) (by omega) (by omega) f4 (fun H4 hb hf4 => ?_) (fun b rid H4 hb hnb hf4 => ?_)
    · replace hf4 : Fr H3.length H3 H4 := hf4
      have hbig : big (forgetL d (N + 1) k) = true := by rw [hmat]; exact bigL.2 hb
      rw [hbig, cond_true] at hh
      subst hh
      have g2 : H4[2]? = some (.lv 2 [.i 0, .ro []]) := (hf4 2 (by omega)).trans f2
      refine O_q 2 ?_
      refine O_st (o := 0) (sz := 2) (cs := [.i 0, .ro []]) (id := 2) [.i 0, .ro []] [.i 0, .ro []] g2 ?_
      refine O_q 1 ?_
      refine O_nil ?_
      refine Gh_e ⟨⟨25, [(4, .po 2 0), (5, .i 11)]⟩, H4.set 2 (.lv 2 [.i 0, .ro []])⟩ ?_
      refine W_ret ?_
      exact Fin_free (l := [.agg [.i 0, .ro []], .i 11]) (res_box rfl (sq_self g2) rfl rfl) rfl rfl
    · replace hf4 : Fr H3.length H3 H4 := hf4
      replace hnb : NB H3.length H4 b (N + 1) m' rid := hnb
      have hbig : big (forgetL d (N + 1) k) = false := by
        cases e : big (forgetL d (N + 1) k) with
        | false => rfl
        | true => rw [hmat] at e; exact (hb (bigL.1 e)).elim
      rw [hbig, cond_false] at hh
      subst hh
      have g2 : H4[2]? = some (.lv 2 [.i 0, .ro []]) := (hf4 2 (by omega)).trans f2
      refine O_q 2 ?_
      refine O_st (o := 0) (sz := 2) (cs := [.i 0, .ro []]) (id := 2) [.i ((N + 1 - 1 : Nat) : Int), .own b (N + 1) 0 (N + 1)] [.i ((N + 1 - 1 : Nat) : Int), .own b (N + 1) 0 (N + 1)] g2 ?_
      refine O_q 1 ?_
      refine O_nil ?_
      refine Gh_e ⟨⟨25, [(4, .po 2 0), (5, .i 0)]⟩, H4.set 2 (.lv 2 [.i ((N + 1 - 1 : Nat) : Int), .own b (N + 1) 0 (N + 1)])⟩ ?_
      refine W_ret ?_
      refine Fin_pk (l := [.agg [.i ((N + 1 - 1 : Nat) : Int), .own b (N + 1) 0 (N + 1)], .i 0]) (res_box rfl (sq_self g2) rfl rfl) (pk_tup (mapO_cons (pk_agg (mapO_cons (y := .i a0.N) ?_ (mapO_cons (y := .ro ((forgetL d (N + 1) k).map (cL cI_i64))) ?_ rfl))) rfl))
      · rw [hN]; exact pk_free rfl
      · rw [hmat]; exact pk_NB (hnb.set (by omega))
end G11

namespace G11
open Go hiding Obj mark
open Go.Pl Go.Am Go.Am.As
set_option linter.unusedVariables false

def freeM (i j : Nat) : Int := if i = j then 0 else -1099511627776

theorem empty_eq {M : Nat} {H : List Obj} {K : AV → List Obj → Prop} (hM : M + 1 ≤ 13)
    (hk : ∀ q H' m, H.length ≤ q → H'[q]? = some (sqo (M + 1) m) → Fr H.length H H' → K (.po q 0) H') : WC E0 hp false 59 [.i (M : Int)] H K := by
  refine W_call fn59 (.inl rfl) rfl (by decide) ?_
  refine W_seq ?_
  refine W_gh ?_
  refine W_reg ?_
  refine O_q 1 ?_
  refine O_nil ?_
  refine Gh_e ⟨⟨12, [(0, .i (M : Int))]⟩, H⟩ ?_
  refine W_seq ?_
  refine W_gh ?_
  refine W_reg ?_
  refine O_q 3 ?_
  refine O_box (cs := .i ((M + 1 : Nat) : Int) :: sqc (fun _ _ => 0)) (sz := 170) H.length (H ++ [sqo (M + 1) fun _ _ => 0]) (by rw [← addI_nat (k := M) (by omega)]; kernel_rfl) (by simp [sqc]) ?_ rfl rfl
  refine O_alloc (sz := 1) (H.length + 1) (H ++ [sqo (M + 1) fun _ _ => 0, .lv 1 [.nilp]]) rfl ?_ (by simp) (by rw [List.append_assoc]; rfl)
  refine O_st (o := 0) (sz := 1) (cs := [.nilp]) [.po H.length 0] [.po H.length 0] (id := H.length + 1) (get_end 1 rfl) ?_
  refine O_nil ?_
  have eH : (H ++ [sqo (M + 1) fun _ _ => 0, Obj.lv 1 [.nilp]]).set (H.length + 1) (.lv 1 [.po H.length 0]) = H ++ [sqo (M + 1) fun _ _ => 0, .lv 1 [.po H.length 0]] := by simp
  rw [eH]
  refine Gh_e ⟨⟨12, [(3, .po (H.length + 1) 0)]⟩, H ++ [sqo (M + 1) fun _ _ => 0, .lv 1 [.po H.length 0]]⟩ ?_
  have hs : (H ++ [sqo (M + 1) fun _ _ => 0, Obj.lv 1 [.po H.length 0]])[H.length]? = some (sqo (M + 1) fun _ _ => 0) := get_end 0 rfl
  have hp3 : (H ++ [sqo (M + 1) fun _ _ => 0, Obj.lv 1 [.po H.length 0]])[H.length + 1]? = some (.lv 1 [.po H.length 0]) := get_end 1 rfl
  have hf : Fr H.length H (H ++ [sqo (M + 1) fun _ _ => 0, Obj.lv 1 [.po H.length 0]]) := Fr.app
  have hlen : (H ++ [sqo (M + 1) fun _ _ => 0, Obj.lv 1 [.po H.length 0]]).length = H.length + 2 := by simp
  generalize H ++ [sqo (M + 1) fun _ _ => 0, Obj.lv 1 [.po H.length 0]] = H1 at hs hp3 hf hlen ⊢
  refine W_seq ?_
  refine W_gh ?_
  refine W_reg ?_
  refine O_ldb (o := 0) hp3 (by kernel_rfl) rfl ?_
  refine O_q 1 ?_
  refine O_wc (xs := [.po H.length 0, .fn 89 [.po (H.length + 1) 0]]) (by kernel_rfl) (by kernel_rfl) ?_
  refine each_eq (n := M + 1) (fun i j H' => Fr H.length H H' ∧ H'[H.length + 1]? = some (.lv 1 [.po H.length 0]) ∧ ∃ m, H'[H.length]? = some (sqo (M + 1) m)) hM (fun i j H' h => h.2.2) (fun i j H' h => .inr ?_) ⟨hf, hp3, _, hs⟩ ?_ (fun i H' _ h => h) ?_
  · obtain ⟨h1, h2, m, h3⟩ := h
    rw [hlen]
    exact ⟨h1.take (by omega), get_take h2 (by omega), m, get_take h3 (by omega)⟩
  · rintro i j H2 K' hi hj ⟨h1, h2, m, h3⟩ hk'
    refine W_call fn89 (.inr (snaps_none 2 rfl rfl)) rfl (by decide) ?_
    refine W_seq ?_
    refine W_gh ?_
    refine W_reg ?_
    refine O_ldb (o := 0) h2 (by kernel_rfl) rfl ?_
    refine O_q 4 ?_
    refine O_sqst (v := -1099511627776) (i := i) (j := j) (by omega) (by omega) h3 ?_
    refine O_nil ?_
    have g2 : (H2.set H.length (sqo (M + 1) (up2 m i j (-1099511627776))))[H.length + 1]? = some (.lv 1 [.po H.length 0]) := get_ne h2 (by omega)
    have g3 : (H2.set H.length (sqo (M + 1) (up2 m i j (-1099511627776))))[H.length]? = some (sqo (M + 1) (up2 m i j (-1099511627776))) := sq_self h3
    have g1 : Fr H.length H (H2.set H.length (sqo (M + 1) (up2 m i j (-1099511627776)))) := h1.set (Nat.le_refl _)
    refine Gh_e ⟨⟨22, [(0, .i (i : Int)), (1, .i (j : Int)), (2, .po (H.length + 1) 0)]⟩, H2.set H.length (sqo (M + 1) (up2 m i j (-1099511627776)))⟩ ?_
    generalize H2.set H.length (sqo (M + 1) (up2 m i j (-1099511627776))) = H3 at g1 g2 g3 ⊢
    refine W_seq ?_
    refine W_gh ?_
    refine W_reg ?_
    refine O_q 3 ?_
    refine O_nil ?_
    refine Gh_e ⟨⟨22, [(0, .i (i : Int)), (1, .i (j : Int)), (2, .po (H.length + 1) 0), (14, .bool ((i : Int) == (j : Int)))]⟩, H3⟩ ?_
    refine W_gh ?_
    refine W_cond (c := ((i : Int) == (j : Int))) (by kernel_rfl) (fun c => ?_) (fun c => ?_)
    · refine W_gh ?_
      refine W_reg ?_
      refine O_ldb (o := 0) g2 (by kernel_rfl) rfl ?_
      refine O_q 4 ?_
      refine O_sqst (v := 0) (i := i) (j := j) (by omega) (by omega) g3 ?_
      refine O_nil ?_
      refine Gh_e ⟨⟨22, [(14, .bool ((i : Int) == (j : Int)))]⟩, H3.set H.length (sqo (M + 1) (up2 (up2 m i j (-1099511627776)) i j 0))⟩ ?_
      refine Gh_e ⟨⟨22, []⟩, H3.set H.length (sqo (M + 1) (up2 (up2 m i j (-1099511627776)) i j 0))⟩ ?_
      exact ⟨[], rfl, hk' _ ⟨g1.set (Nat.le_refl _), get_ne g2 (by omega), _, sq_self g3⟩⟩
    · refine W_skip ?_
      refine Gh_e ⟨⟨22, []⟩, H3⟩ ?_
      exact ⟨[], rfl, hk' _ ⟨g1, g2, _, g3⟩⟩
  rintro H2 ⟨h1, h2, m, h3⟩
  refine O_nil ?_
  refine Gh_e ⟨⟨12, [(3, .po (H.length + 1) 0)]⟩, H2⟩ ?_
  refine W_seq ?_
  refine W_gh ?_
  refine W_reg ?_
  refine O_ldb (o := 0) h2 (by kernel_rfl) rfl ?_
  refine O_q 1 ?_
  refine O_nil ?_
  refine Gh_e ⟨⟨12, [(2, .po H.length 0)]⟩, H2⟩ ?_
  refine W_ret ?_
  exact ⟨[.po H.length 0], by kernel_rfl, hk _ _ m (Nat.le_refl _) h3 h1⟩

/-- the order of the times -/
def ordN (i t : Nat) : Nat := if i ≤ t then t else t + 1
theorem ord_lt {N i x : Nat} (hi : i ≤ N) (hx : x < N) : ord i x < N + 1 := by unfold ord; split <;> (try split) <;> omega

theorem shift_f {id id2 ax bx cx B n n2 i j k : Nat} {m m2 : Nat → Nat → Int} {H : List Obj} {K : AV → List Obj → Prop} (hi1 : i ≤ n2) (hn : n = n2 + 1) (hn13 : n ≤ 13) (hj : j < n2) (hk : k < n2) (hs : H[id]? = some (sqo n m)) (hs2 : H[id2]? = some (sqo n2 m2))
    (hax : H[ax]? = some (.lv 1 [.po id 0])) (hbx : H[bx]? = some (.lv 1 [.own B n2 0 n2])) (hB : H[B]? = some (.live .norm 1 ((rowL n2 fun x => (ord i x : Int)).map cI_i64))) (hcx : H[cx]? = some (.lv 1 [.po id2 0]))
    (hK : K (.tup []) (H.set id2 (sqo n2 (up2 m2 j k (m (ord i j) (ord i k)))))) : WC E0 hp false 60 [.i (j : Int), .i (k : Int), .po ax 0, .po bx 0, .po cx 0] H K := by
  have o1 := ord_lt hi1 hj
  have o2 := ord_lt hi1 hk
  refine W_call fn60 (.inr (snaps_none 2 rfl rfl)) rfl (by decide) ?_
  refine W_gh ?_
  refine W_draw ?_
  refine O_ldb (o := 0) hcx (by kernel_rfl) rfl ?_
  refine O_q 2 ?_
  refine O_ldb (o := 0) hax (by kernel_rfl) rfl ?_
  refine O_ldb (o := 0) hbx (by kernel_rfl) rfl ?_
  refine O_q 1 ?_
  refine O_owld (i := j) (n := n2) hB fo_len (fo_get hj) ?_
  refine O_ldb (o := 0) hbx (by kernel_rfl) rfl ?_
  refine O_q 1 ?_
  refine O_owld (i := k) (n := n2) hB fo_len (fo_get hk) ?_
  refine O_q 2 ?_
  refine O_sqld (i := ord i j) (j := ord i k) (by omega) (by omega) hs ?_
  refine O_q 2 ?_
  refine O_sqst (v := m (ord i j) (ord i k)) (i := j) (j := k) (by omega) (by omega) hs2 ?_
  refine O_nil ?_
  refine Gh_e ⟨⟨28, []⟩, H.set id2 (sqo n2 (up2 m2 j k (m (ord i j) (ord i k))))⟩ ?_
  exact ⟨[], rfl, hK⟩

theorem p25 (a0 : SBounds) (a1 : Int) (r : SBounds × Int) (h : m25 a0 a1 = some r) : Pt E0 hp 25 [.agg (cSBounds a0), .i a1] (.tup [.agg [.i r.1.N, .ro (r.1.Most.map (cL cI_i64))], .i r.2]) := by
  obtain ⟨c, _, e32, hR⟩ := check_eq0 a0
  unfold m25 at h
  rw [e32] at h
  simp only [Option.bind_some] at h
  refine Pt_W fn25 rfl (by decide) ?_
  refine W_seq ?_
  refine W_gh ?_
  refine W_reg ?_
  refine O_p 3 ?_
  refine O_nil ?_
  refine Gh_e ⟨⟨47, [(1, .i a1), (2, .po 0 0), (4, .po 1 0)]⟩, [.lv 2 (cSBounds a0), .lv 2 [.i 0, .ro []]]⟩ ?_
  refine W_seq ?_
  -- the region with the call
  let Q : ST → Prop := fun s' => ∃ A H2, Fr 2 [.lv 2 (cSBounds a0), .lv 2 [.i 0, .ro []]] H2 ∧ A < H2.length ∧
    ((∃ e : Int, s' = ⟨⟨47, [(1, .i a1), (2, .po 0 0), (4, .po 1 0), (6, .po A 0), (7, .i e)]⟩, H2⟩ ∧ e ≠ 0 ∧ r = (⟨0, []⟩, e)) ∨
     ∃ (N k q : Nat) (m : Nat → Nat → Int) (d : List (List Int)), s' = ⟨⟨47, [(1, .i (k : Int)), (2, .po 0 0), (4, .po 1 0), (6, .po A 0), (7, .i 0)]⟩, H2⟩ ∧ a0.N = (N : Int) ∧ a1 = (k : Int) ∧ 1 ≤ k ∧ k ≤ N ∧ Rt N a0.Most ∧ solve a0.Most = .inr d ∧ (∀ i j, i < N + 1 → j < N + 1 → m i j = ent d i j) ∧ 2 < q ∧ q < A ∧ H2[q]? = some (sqo (N + 1) m) ∧ H2[A]? = some (.lv 1 [.po q 0]) ∧ r = (bif big (shiftL d a0.Most.length k) then (⟨0, []⟩, 11) else (⟨a0.N - 1, shiftL d a0.Most.length k⟩, 0)))
  have hone : ∀ (v : AV) (e : Int) (H' : List Obj), (v = .nilp ∨ ∃ q, v = .po q 0) → Fr 2 [.lv 2 (cSBounds a0), .lv 2 [.i 0, .ro []]] H' → (∀ H2 : List Obj, Fr 2 [.lv 2 (cSBounds a0), .lv 2 [.i 0, .ro []]] H2 → Fr H'.length H' H2 → H2[H'.length]? = some (.lv 1 [v]) → Q ⟨⟨47, [(1, .i a1), (2, .po 0 0), (4, .po 1 0), (6, .po H'.length 0), (7, .i e)]⟩, H2⟩) →
      WO E0 hp false [L11.o 11 (.mov (.t 14)), L11.o 15 (.ext (.t 11) 0), L11.o 16 (.ext (.t 11) 1), L11.o 6 (.alloc [.nilp]), L11.u (.store 1 (.t 6) (.t 15)), L11.o 7 (.mov (.t 16))] ((⟨47, [(1, .i a1), (2, .po 0 0), (4, .po 1 0), (12, .agg (cSBounds a0)), (13, .i a1)]⟩ : T).put 14 (.tup [v, .i e])) H' (fun t H => Gh 0 [.kill [11, 12, 13, 14, 15, 16]] ⟨t, H⟩ Q) := by
    intro v e H' hv hf hq
    have hl : 2 ≤ H'.length := by have := get_lt (show H'[1]? = some (.lv 2 [.i 0, .ro []]) from hf 1 (by omega)); omega
    have h1 : allOne [v] = true ∧ v.cells = [v] := by rcases hv with rfl | ⟨q, rfl⟩ <;> exact ⟨rfl, rfl⟩
    refine O_q 3 ?_
    refine O_alloc (sz := 1) H'.length (H' ++ [.lv 1 [.nilp]]) rfl ?_
    refine O_st (o := 0) (sz := 1) (cs := [.nilp]) (id := H'.length) [v] [v] get_last ?_ (h1 := h1.1) (hy := by rcases hv with rfl | ⟨q, rfl⟩ <;> kernel_rfl)
    refine O_q 1 ?_
    refine O_nil ?_
    rw [show (H' ++ [Obj.lv 1 [.nilp]]).set H'.length (.lv 1 [v]) = H' ++ [.lv 1 [v]] by simp]
    refine Gh_e _ (hq _ (hf.trans Fr.app (by omega)) Fr.app get_last) (by kernel_rfl)
  refine W.mono (N := Q) (W_gh (W_reg ?_)) (fun s' hs' => ?_) (fun _ _ h => h) (fun _ h => h)
  · refine O_p 2 ?_
    refine O_wc (xs := [.agg (cSBounds a0), .i a1]) (by kernel_rfl) (by kernel_rfl) ?_
    refine one_eq e32 hR (fun hc h1 h2 h6 => ?_) (fun H' hc hf => ?_) (fun H' hc ho hf => ?_) (fun H' y hc ho hs hf => ?_) (fun N k q H' m d hc hN hk h1 h2 hrt hs hm hq hsq hf => ?_)
    · subst hc
      rw [show ((0 : Int) != 0) = false from rfl, cond_false, show (decide (a1 < 1) || decide (a1 > a0.N)) = false by simp; omega, cond_false, decide_eq_true h6, cond_true] at h
      cases h
    · rw [show (c != 0) = true by simpa using hc, cond_true] at h
      injection h with h
      replace hf : Fr 2 [.lv 2 (cSBounds a0), .lv 2 [.i 0, .ro []]] H' := hf
      refine O_at (t' := (⟨47, [(1, .i a1), (2, .po 0 0), (4, .po 1 0), (12, .agg (cSBounds a0)), (13, .i a1)]⟩ : T).put 14 (.tup [.nilp, .i c])) (by kernel_rfl) rfl ?_
      exact hone .nilp c H' (.inl rfl) hf (fun H2 f1 f2 f3 => ⟨H'.length, H2, f1, get_lt f3, .inl ⟨c, rfl, hc, h.symm⟩⟩)
    · subst hc
      rw [show ((0 : Int) != 0) = false from rfl, cond_false, ho, cond_true] at h
      injection h with h
      replace hf : Fr 2 [.lv 2 (cSBounds a0), .lv 2 [.i 0, .ro []]] H' := hf
      refine O_at (t' := (⟨47, [(1, .i a1), (2, .po 0 0), (4, .po 1 0), (12, .agg (cSBounds a0)), (13, .i a1)]⟩ : T).put 14 (.tup [.nilp, .i 2])) (by kernel_rfl) rfl ?_
      exact hone .nilp 2 H' (.inl rfl) hf (fun H2 f1 f2 f3 => ⟨H'.length, H2, f1, get_lt f3, .inl ⟨2, rfl, by decide, h.symm⟩⟩)
    · subst hc
      rw [show ((0 : Int) != 0) = false from rfl, cond_false, ho, cond_false] at h
      have h6 : decide (a0.N > 6) = false := by
        cases e : decide (a0.N > 6) with
        | false => rfl
        | true => rw [e, cond_true] at h; cases h
      rw [h6, cond_false, hs] at h
      injection h with h
      replace hf : Fr 2 [.lv 2 (cSBounds a0), .lv 2 [.i 0, .ro []]] H' := hf
      refine O_at (t' := (⟨47, [(1, .i a1), (2, .po 0 0), (4, .po 1 0), (12, .agg (cSBounds a0)), (13, .i a1)]⟩ : T).put 14 (.tup [.nilp, .i 16])) (by kernel_rfl) rfl ?_
      exact hone .nilp 16 H' (.inl rfl) hf (fun H2 f1 f2 f3 => ⟨H'.length, H2, f1, get_lt f3, .inl ⟨16, rfl, by decide, h.symm⟩⟩)
    · subst hc
      replace hf : Fr 2 [.lv 2 (cSBounds a0), .lv 2 [.i 0, .ro []]] H' := hf
      replace hq : 2 < q := hq
      subst hk
      have hN7 := hrt.hN
      rw [show ((0 : Int) != 0) = false from rfl, cond_false, show (decide ((k : Int) < 1) || decide ((k : Int) > a0.N)) = false by simp; omega, cond_false, show decide (a0.N > 6) = false by simp; omega, cond_false, hs, Int.toNat_natCast] at h
      injection h with h
      refine O_at (t' := (⟨47, [(1, .i (k : Int)), (2, .po 0 0), (4, .po 1 0), (12, .agg (cSBounds a0)), (13, .i (k : Int))]⟩ : T).put 14 (.tup [.po q 0, .i 0])) (by kernel_rfl) rfl ?_
      have hql := get_lt hsq
      exact hone (.po q 0) 0 H' (.inr ⟨q, rfl⟩) hf (fun H2 f1 f2 f3 => ⟨H'.length, H2, f1, get_lt f3, .inr ⟨N, k, q, m, d, rfl, hN, rfl, h1, h2, hrt, hs, hm, hq, hql, (f2 q hql).trans hsq, f3, h.symm⟩⟩)
  obtain ⟨A, H2, hf, hAl, hcase⟩ := hs'
  have hb1 : H2[1]? = some (.lv 2 [.i 0, .ro []]) := hf 1 (by omega)
  have hb0 : H2[0]? = some (.lv 2 (cSBounds a0)) := hf 0 (by omega)
  rcases hcase with ⟨e, rfl, he, rfl⟩ | ⟨N, k, q, m, d, rfl, hN, rfl, hk1, hk2, hrt, hs, hm, hq, hqA, hsq, hAq, hh⟩
  · refine W_seq ?_
    refine W_seq ?_
    refine W_gh ?_
    refine W_reg ?_
    refine O_q 2 ?_
    refine O_nil ?_
    refine Gh_e ⟨⟨47, [(1, .i a1), (2, .po 0 0), (4, .po 1 0), (6, .po A 0), (7, .i e), (18, .bool (e != 0))]⟩, H2⟩ ?_
    refine W_gh ?_
    refine W_cond (c := (e != 0)) (by kernel_rfl) (fun _ => ?_) (fun c => (he (by simpa using c)).elim)
    refine W_seq ?_
    refine W_gh ?_
    refine W_reg ?_
    refine O_q 2 ?_
    refine O_st (o := 0) (sz := 2) (cs := [.i 0, .ro []]) (id := 1) [.i 0, .nils] [.i 0, .nils] hb1 ?_
    refine O_q 1 ?_
    refine O_nil ?_
    refine Gh_one (s1 := ⟨⟨47, [(1, .i a1), (2, .po 0 0), (4, .po 1 0), (5, .i e), (6, .po A 0), (18, .bool (e != 0))]⟩, H2.set 1 (.lv 2 [.i 0, .nils])⟩) (by kernel_rfl) ?_
    refine Gh_wkp (id := 1) (cs' := [.i 0, .ro []]) (sq_self hb1) rfl rfl rfl ?_
    refine Gh_nil ?_
    refine W_ret ?_
    exact Fin_free (l := [.agg [.i 0, .ro []], .i e]) (res_box rfl (sq_self (sq_self hb1)) rfl rfl) rfl rfl
  · have hN7 := hrt.hN
    rw [hrt.sq.1] at hh
    have hcs : cSBounds a0 = [.i (N : Int), .ro (a0.Most.map (cL cI_i64))] := by rw [cSB, hN]
    rw [hcs] at hb0
    have hsh : shiftL d (N + 1) k = matL N fun j l => ent d (ord k j) (ord k l) := rfl
    rw [hsh] at hh
    refine W_seq ?_
    refine W_seq ?_
    refine W_gh ?_
    refine W_reg ?_
    refine O_q 2 ?_
    refine O_nil ?_
    refine Gh_e ⟨⟨47, [(1, .i (k : Int)), (2, .po 0 0), (4, .po 1 0), (6, .po A 0), (7, .i 0), (18, .bool false)]⟩, H2⟩ ?_
    refine W_gh ?_
    refine W_cond (c := false) (by kernel_rfl) (fun c => by simp at c) (fun _ => ?_)
    refine W_skip ?_
    refine Gh_e ⟨⟨47, [(1, .i (k : Int)), (2, .po 0 0), (4, .po 1 0), (6, .po A 0)]⟩, H2⟩ ?_
    refine W_seq ?_
    refine W_gh ?_
    refine W_reg ?_
    refine O_q 1 ?_
    refine O_bsl1 (v := .i (k : Int)) (by kernel_rfl) ?_
    refine O_alloc (sz := 1) (H2.length + 1) (H2 ++ [.live .norm 1 [[.i (k : Int)]], .lv 1 [.nils]]) rfl ?_
    refine O_st (o := 0) (sz := 1) (cs := [.nils]) (id := H2.length + 1) [.own H2.length 1 0 1] [.own H2.length 1 0 1] (get_end 1 rfl) ?_
    refine O_nil ?_
    have eS : (H2 ++ [Obj.live .norm 1 [[.i (k : Int)]], .lv 1 [.nils]]).set (H2.length + 1) (.lv 1 [.own H2.length 1 0 1]) = H2 ++ [.live .norm 1 [[.i (k : Int)]], .lv 1 [.own H2.length 1 0 1]] := by simp
    rw [eS]
    refine Gh_one (s1 := ⟨⟨47, [(1, .i (k : Int)), (2, .po 0 0), (4, .po 1 0), (6, .po A 0), (8, .po (H2.length + 1) 0)]⟩, H2 ++ [.live .norm 1 [[.i (k : Int)]], .lv 1 [.own H2.length 1 0 1]]⟩) (by kernel_rfl) ?_
    refine Gh_wkp (id := H2.length + 1) (cs' := [.own H2.length 1 0 1]) (get_end 1 rfl) rfl rfl rfl ?_
    refine Gh_nil ?_
    have eS2 : (H2 ++ [Obj.live .norm 1 [[.i (k : Int)]], .lv 1 [.own H2.length 1 0 1]]).set (H2.length + 1) (.lv 1 [.own H2.length 1 0 1]) = H2 ++ [.live .norm 1 [[.i (k : Int)]], .lv 1 [.own H2.length 1 0 1]] := by simp
    show W E0 hp _ _ _ _ _ ⟨_, (H2 ++ [Obj.live .norm 1 [[.i (k : Int)]], .lv 1 [.own H2.length 1 0 1]]).set (H2.length + 1) (.lv 1 [.own H2.length 1 0 1])⟩
    rw [eS2]
    have u1 : (H2 ++ [Obj.live .norm 1 [[.i (k : Int)]], .lv 1 [.own H2.length 1 0 1]])[H2.length]? = some (.live .norm 1 ((rowL 1 fun x => (ord k x : Int)).map cI_i64)) := get_end 0 rfl
    have u2 : (H2 ++ [Obj.live .norm 1 [[.i (k : Int)]], .lv 1 [.own H2.length 1 0 1]])[H2.length + 1]? = some (.lv 1 [.own H2.length 1 0 1]) := get_end 1 rfl
    have u3 : Fr H2.length H2 (H2 ++ [Obj.live .norm 1 [[.i (k : Int)]], .lv 1 [.own H2.length 1 0 1]]) := Fr.app
    generalize H2 ++ [Obj.live .norm 1 [[.i (k : Int)]], .lv 1 [.own H2.length 1 0 1]] = H3 at u1 u2 u3 ⊢
    have hB5 : 5 ≤ H2.length := by omega
    refine W_seq ?_
    refine W_seq ?_
    refine W_reg ?_
    refine O_q 1 ?_
    refine O_nil ?_
    refine W_gh (W_block ?_)
    refine W_lp (fun s' => ∃ (t : Nat) (H4 : List Obj), s' = ⟨⟨47, [(1, .i (k : Int)), (2, .po 0 0), (4, .po 1 0), (6, .po A 0), (8, .po (H2.length + 1) 0), (9, .i ((t + 1 : Nat) : Int))]⟩, H4⟩ ∧ t ≤ N ∧ Fr H2.length H2 H4 ∧ H4[H2.length + 1]? = some (.lv 1 [.own H2.length (ordN k t) 0 (ordN k t)]) ∧ H4[H2.length]? = some (.live .norm 1 ((rowL (ordN k t) fun x => (ord k x : Int)).map cI_i64)))
      (fun s' => match s'.tmps.get 9 with | .int _ t => N + 1 - t.toNat | _ => 0) ⟨0, H3, rfl, by omega, u3, by rw [show ordN k 0 = 1 by unfold ordN; rw [if_neg (by omega)]]; exact u2, by rw [show ordN k 0 = 1 by unfold ordN; rw [if_neg (by omega)]]; exact u1⟩ ?_
    rintro s' ⟨t, H4, rfl, ht, i1, i2, i3⟩
    have w0 : H4[0]? = some (.lv 2 [.i (N : Int), .ro (a0.Most.map (cL cI_i64))]) := (i1 0 (by omega)).trans hb0
    refine W_gh ?_
    refine W_seq ?_
    refine W_seq ?_
    refine W_gh ?_
    refine W_reg ?_
    refine O_q 2 ?_
    refine O_ldb (o := 0) w0 (by kernel_rfl) rfl ?_
    refine O_q 1 ?_
    refine O_nil ?_
    refine Gh_e ⟨⟨47, [(1, .i (k : Int)), (2, .po 0 0), (4, .po 1 0), (6, .po A 0), (8, .po (H2.length + 1) 0), (9, .i ((t + 1 : Nat) : Int)), (26, .bool (decide (((t + 1 : Nat) : Int) ≤ (N : Int))))]⟩, H4⟩ ?_
    refine W_gh ?_
    refine W_cond (c := decide (((t + 1 : Nat) : Int) ≤ (N : Int))) (by kernel_rfl) (fun c => ?_) (fun c => ?_)
    · have c3 : t < N := by have := of_decide_eq_true c; omega
      -- what a round leaves
      have hround : ∀ H5 : List Obj, Fr H2.length H2 H5 → H5[H2.length + 1]? = some (.lv 1 [.own H2.length (ordN k (t + 1)) 0 (ordN k (t + 1))]) → H5[H2.length]? = some (.live .norm 1 ((rowL (ordN k (t + 1)) fun x => (ord k x : Int)).map cI_i64)) →
          Gh 0 [.kill [31], .trunc 5] ⟨⟨47, [(1, .i (k : Int)), (2, .po 0 0), (4, .po 1 0), (6, .po A 0), (8, .po (H2.length + 1) 0), (9, .i ((t + 1 : Nat) : Int)), (31, .bool (((t + 1 : Nat) : Int) != (k : Int)))]⟩, H5⟩ (fun s' => s' = ⟨⟨47, [(1, .i (k : Int)), (2, .po 0 0), (4, .po 1 0), (6, .po A 0), (8, .po (H2.length + 1) 0), (9, .i ((t + 1 : Nat) : Int))]⟩, H5⟩) := by
        intro H5 _ _ _
        refine Gh_one (s1 := ⟨⟨47, [(1, .i (k : Int)), (2, .po 0 0), (4, .po 1 0), (6, .po A 0), (8, .po (H2.length + 1) 0), (9, .i ((t + 1 : Nat) : Int))]⟩, H5⟩) (by kernel_rfl) ?_
        refine Gh_keep (tb_skip (tb_skip (tb_skip (tb_skip (tb_bad (by simp [AV.bel]; omega)))))) ?_
        exact Gh_nil rfl
      refine W_skip ?_
      refine Gh_e ⟨⟨47, [(1, .i (k : Int)), (2, .po 0 0), (4, .po 1 0), (6, .po A 0), (8, .po (H2.length + 1) 0), (9, .i ((t + 1 : Nat) : Int))]⟩, H4⟩ ?_
      refine W_seq ?_
      refine W.mono (N := fun s' => ∃ H5, s' = ⟨⟨47, [(1, .i (k : Int)), (2, .po 0 0), (4, .po 1 0), (6, .po A 0), (8, .po (H2.length + 1) 0), (9, .i ((t + 1 : Nat) : Int))]⟩, H5⟩ ∧ Fr H2.length H2 H5 ∧ H5[H2.length + 1]? = some (.lv 1 [.own H2.length (ordN k (t + 1)) 0 (ordN k (t + 1))]) ∧ H5[H2.length]? = some (.live .norm 1 ((rowL (ordN k (t + 1)) fun x => (ord k x : Int)).map cI_i64))) (W_gh (W_block ?_)) (fun s' hs' => ?_) (fun _ _ h => h) (fun _ h => h)
      · refine W_seq ?_
        refine W_gh ?_
        refine W_reg ?_
        refine O_q 3 ?_
        refine O_nil ?_
        refine Gh_e ⟨⟨47, [(1, .i (k : Int)), (2, .po 0 0), (4, .po 1 0), (6, .po A 0), (8, .po (H2.length + 1) 0), (9, .i ((t + 1 : Nat) : Int)), (31, .bool (((t + 1 : Nat) : Int) != (k : Int)))]⟩, H4⟩ ?_
        refine W_gh ?_
        refine W_cond (c := (((t + 1 : Nat) : Int) != (k : Int))) (by kernel_rfl) (fun c4 => ?_) (fun c4 => ?_)
        · have c5 : t + 1 ≠ k := by intro e; rw [e] at c4; simp at c4
          have eL : ordN k (t + 1) = ordN k t + 1 := by unfold ordN; split <;> split <;> omega
          have eo : ord k (ordN k t) = t + 1 := by unfold ord ordN; split <;> split <;> (try split) <;> omega
          refine W_gh ?_
          refine W_reg ?_
          refine O_ldb (o := 0) i2 (by kernel_rfl) rfl ?_
          refine O_q 1 ?_
          refine O_bsl1 (v := .i ((t + 1 : Nat) : Int)) (by kernel_rfl) ?_
          have l1 : (H4 ++ [Obj.live .norm 1 [[.i ((t + 1 : Nat) : Int)]]])[H2.length]? = some (.live .norm 1 ((rowL (ordN k t) fun x => (ord k x : Int)).map cI_i64)) := get_app i3
          have l2 : (H4 ++ [Obj.live .norm 1 [[.i ((t + 1 : Nat) : Int)]]])[H2.length + 1]? = some (.lv 1 [.own H2.length (ordN k t) 0 (ordN k t)]) := get_app i2
          have l3 : (H4 ++ [Obj.live .norm 1 [[.i ((t + 1 : Nat) : Int)]]])[H4.length]? = some (.live .norm 1 [[.i ((t + 1 : Nat) : Int)]]) := get_last
          have l4 : Fr H2.length H2 (H4 ++ [Obj.live .norm 1 [[.i ((t + 1 : Nat) : Int)]]]) := i1.trans Fr.app (by have := get_lt i3; omega)
          have hLs : ordN k t ≤ 8 := by unfold ordN; split <;> omega
          refine O_app1 (m := ordN k t) (v := .i ((t + 1 : Nat) : Int)) (tid := H4.length) l1 (by simp [rowL]) l3 rfl (by omega) (by omega) rfl ?_
          have ea : ((rowL (ordN k t) fun x => (ord k x : Int)).map cI_i64) ++ [[.i ((t + 1 : Nat) : Int)]] = (rowL (ordN k t + 1) fun x => (ord k x : Int)).map cI_i64 := by
            unfold rowL; rw [List.range_succ, List.map_append, List.map_append]
            simp [cI_i64, eo]
          rw [ea]
          refine O_st (o := 0) (sz := 1) (cs := [.own H2.length (ordN k t) 0 (ordN k t)]) (id := H2.length + 1) [.own H2.length (ordN k t + 1) 0 (ordN k t + 1)] [.own H2.length (ordN k t + 1) 0 (ordN k t + 1)] (get_ne l2 (by omega)) ?_
          refine O_nil ?_
          have k1 : (((H4 ++ [Obj.live .norm 1 [[.i ((t + 1 : Nat) : Int)]]]).set H2.length (.live .norm 1 ((rowL (ordN k t + 1) fun x => (ord k x : Int)).map cI_i64))).set (H2.length + 1) (.lv 1 [.own H2.length (ordN k t + 1) 0 (ordN k t + 1)]))[H2.length + 1]? = some (.lv 1 [.own H2.length (ordN k (t + 1)) 0 (ordN k (t + 1))]) := by rw [eL]; exact sq_self (get_ne l2 (by omega))
          have k2 : (((H4 ++ [Obj.live .norm 1 [[.i ((t + 1 : Nat) : Int)]]]).set H2.length (.live .norm 1 ((rowL (ordN k t + 1) fun x => (ord k x : Int)).map cI_i64))).set (H2.length + 1) (.lv 1 [.own H2.length (ordN k t + 1) 0 (ordN k t + 1)]))[H2.length]? = some (.live .norm 1 ((rowL (ordN k (t + 1)) fun x => (ord k x : Int)).map cI_i64)) := by rw [eL]; exact get_ne (sq_self l1) (by omega)
          have k3 : Fr H2.length H2 (((H4 ++ [Obj.live .norm 1 [[.i ((t + 1 : Nat) : Int)]]]).set H2.length (.live .norm 1 ((rowL (ordN k t + 1) fun x => (ord k x : Int)).map cI_i64))).set (H2.length + 1) (.lv 1 [.own H2.length (ordN k t + 1) 0 (ordN k t + 1)])) := (l4.set (Nat.le_refl _)).set (by omega)
          refine Gh_one (s1 := ⟨⟨47, [(1, .i (k : Int)), (2, .po 0 0), (4, .po 1 0), (6, .po A 0), (8, .po (H2.length + 1) 0), (9, .i ((t + 1 : Nat) : Int)), (31, .bool (((t + 1 : Nat) : Int) != (k : Int)))]⟩, ((H4 ++ [Obj.live .norm 1 [[.i ((t + 1 : Nat) : Int)]]]).set H2.length (.live .norm 1 ((rowL (ordN k t + 1) fun x => (ord k x : Int)).map cI_i64))).set (H2.length + 1) (.lv 1 [.own H2.length (ordN k t + 1) 0 (ordN k t + 1)])⟩) (by kernel_rfl) ?_
          generalize ((H4 ++ [Obj.live .norm 1 [[.i ((t + 1 : Nat) : Int)]]]).set H2.length (.live .norm 1 ((rowL (ordN k t + 1) fun x => (ord k x : Int)).map cI_i64))).set (H2.length + 1) (.lv 1 [.own H2.length (ordN k t + 1) 0 (ordN k t + 1)]) = H5 at k1 k2 k3 ⊢
          refine Gh_keep (tb_skip (tb_skip (tb_skip (tb_skip (tb_bad (by simp [AV.bel]; omega)))))) ?_
          refine Gh_nil ?_
          obtain ⟨s5, e5, rfl⟩ := hround H5 k3 k1 k2
          refine ⟨_, e5, ?_⟩
          refine Gh_one (s1 := ⟨⟨47, [(1, .i (k : Int)), (2, .po 0 0), (4, .po 1 0), (6, .po A 0), (8, .po (H2.length + 1) 0), (9, .i ((t + 1 : Nat) : Int))]⟩, H5⟩) (by kernel_rfl) ?_
          refine Gh_keep (tb_skip (tb_skip (tb_skip (tb_skip (tb_bad (by simp [AV.bel]; omega)))))) ?_
          exact Gh_nil ⟨H5, rfl, k3, k1, k2⟩
        · have c5 : t + 1 = k := by have : ((t + 1 : Nat) : Int) = (k : Int) := by simpa using c4
                                    omega
          have eL : ordN k (t + 1) = ordN k t := by unfold ordN; split <;> split <;> omega
          refine W_skip ?_
          obtain ⟨s5, e5, rfl⟩ := hround H4 i1 (by rw [eL]; exact i2) (by rw [eL]; exact i3)
          refine ⟨_, e5, ?_⟩
          refine Gh_one (s1 := ⟨⟨47, [(1, .i (k : Int)), (2, .po 0 0), (4, .po 1 0), (6, .po A 0), (8, .po (H2.length + 1) 0), (9, .i ((t + 1 : Nat) : Int))]⟩, H4⟩) (by kernel_rfl) ?_
          refine Gh_keep (tb_skip (tb_skip (tb_skip (tb_skip (tb_bad (by simp [AV.bel]; omega)))))) ?_
          exact Gh_nil ⟨H4, rfl, i1, by rw [eL]; exact i2, by rw [eL]; exact i3⟩
      · obtain ⟨H5, rfl, k3, k1, k2⟩ := hs'
        refine W_gh ?_
        refine W_reg ?_
        refine O_q 3 ?_
        refine O_nil ?_
        refine Gh_e ⟨⟨47, [(1, .i (k : Int)), (2, .po 0 0), (4, .po 1 0), (6, .po A 0), (8, .po (H2.length + 1) 0), (9, .i (addI .i64 ((t + 1 : Nat) : Int) 1))]⟩, H5⟩ ?_
        rw [addI_nat (k := t + 1) (by omega)]
        refine Gh_one (s1 := ⟨⟨47, [(1, .i (k : Int)), (2, .po 0 0), (4, .po 1 0), (6, .po A 0), (8, .po (H2.length + 1) 0), (9, .i ((t + 1 + 1 : Nat) : Int))]⟩, H5⟩) (by kernel_rfl) ?_
        refine Gh_keep (tb_skip (tb_skip (tb_skip (tb_skip (tb_bad (by simp [AV.bel]; omega)))))) ?_
        refine Gh_nil ?_
        refine ⟨⟨t + 1, H5, rfl, by omega, k3, k1, k2⟩, ?_⟩
        show N + 1 - (((t + 1 + 1 : Nat) : Int)).toNat < N + 1 - (((t + 1 : Nat) : Int)).toNat
        omega
    · have c3 := of_decide_eq_false c
      obtain rfl : t = N := by omega
      have eL : ordN k t = t := by unfold ordN; rw [if_pos hk2]
      rw [eL] at i2 i3
      refine W_exit ?_
      refine X_hit ?_
      refine Gh_one (s1 := ⟨⟨47, [(2, .po 0 0), (4, .po 1 0), (6, .po A 0), (8, .po (H2.length + 1) 0)]⟩, H4⟩) (by kernel_rfl) ?_
      refine Gh_keep (tb_skip (tb_skip (tb_skip (tb_bad (by simp [AV.bel]; omega))))) ?_
      refine Gh_nil ?_
      have w1 : H4[1]? = some (.lv 2 [.i 0, .ro []]) := (i1 1 (by omega)).trans hb1
      have w2 : H4[A]? = some (.lv 1 [.po q 0]) := (i1 A hAl).trans hAq
      have w3 : H4[q]? = some (sqo (t + 1) m) := (i1 q (by omega)).trans hsq
      have hl4 := get_lt i2
      obtain ⟨M, rfl⟩ : ∃ M, t = M + 1 := ⟨t - 1, by omega⟩
      refine W_seq ?_
      refine W_gh ?_
      refine W_reg ?_
      refine O_q 1 ?_
      refine O_ldb (o := 0) w0 (by kernel_rfl) rfl ?_
      refine O_q 1 ?_
      refine O_wc (xs := [.i (M : Int)]) (by kernel_rfl) (by rw [show (M : Int) = subI .i64 ((M + 1 : Nat) : Int) 1 by rw [subI_eq (by omega) (by omega)]; omega]; kernel_rfl) ?_
      refine empty_eq (by omega) (fun q2 H5 m2 g1 g2 g3 => ?_)
      replace g1 : H4.length ≤ q2 := g1
      replace g3 : Fr H4.length H4 H5 := g3
      have hq2l := get_lt g2
      refine O_alloc (sz := 1) H5.length (H5 ++ [.lv 1 [.nilp]]) rfl ?_
      refine O_st (o := 0) (sz := 1) (cs := [.nilp]) (id := H5.length) [.po q2 0] [.po q2 0] get_last ?_
      refine O_nil ?_
      rw [show (H5 ++ [Obj.lv 1 [.nilp]]).set H5.length (.lv 1 [.po q2 0]) = H5 ++ [.lv 1 [.po q2 0]] by simp]
      refine Gh_e ⟨⟨47, [(4, .po 1 0), (6, .po A 0), (8, .po (H2.length + 1) 0), (10, .po H5.length 0)]⟩, H5 ++ [.lv 1 [.po q2 0]]⟩ ?_
      have ap : ∀ {a : Nat} {o : Obj}, H4[a]? = some o → (H5 ++ [Obj.lv 1 [.po q2 0]])[a]? = some o := fun h => get_app ((g3 _ (get_lt h)).trans h)
      have x1 := ap w1
      have x2 := ap w2
      have x3 := ap w3
      have x4 := ap i2
      have x5 := ap i3
      have x6 : (H5 ++ [Obj.lv 1 [.po q2 0]])[q2]? = some (sqo (M + 1) m2) := get_app g2
      have x7 : (H5 ++ [Obj.lv 1 [.po q2 0]])[H5.length]? = some (.lv 1 [.po q2 0]) := get_last
      generalize H5 ++ [Obj.lv 1 [.po q2 0]] = H6 at x1 x2 x3 x4 x5 x6 x7 ⊢
      generalize H5.length = C at x7 hq2l ⊢
      have hl6 := get_lt x7
      refine W_seq ?_
      refine W_gh ?_
      refine W_reg ?_
      refine O_ldb (o := 0) x7 (by kernel_rfl) rfl ?_
      refine O_q 1 ?_
      refine O_wc (xs := [.po q2 0, .fn 60 [.po A 0, .po (H2.length + 1) 0, .po C 0]]) (by kernel_rfl) (by kernel_rfl) ?_
      refine each_eq (n := M + 1) (fun i j H' => H'[1]? = some (.lv 2 [.i 0, .ro []]) ∧ H'[A]? = some (.lv 1 [.po q 0]) ∧ H'[q]? = some (sqo (M + 1 + 1) m) ∧ H'[H2.length + 1]? = some (.lv 1 [.own H2.length (M + 1) 0 (M + 1)]) ∧ H'[H2.length]? = some (.live .norm 1 ((rowL (M + 1) fun x => (ord k x : Int)).map cI_i64)) ∧ H'[C]? = some (.lv 1 [.po q2 0]) ∧
          ∃ m3, H'[q2]? = some (sqo (M + 1) m3) ∧ ∀ a b, a < M + 1 → b < M + 1 → (a < i ∨ a = i ∧ b < j) → m3 a b = ent d (ord k a) (ord k b))
        (by omega) (fun i j H' h => by obtain ⟨m3, h1, _⟩ := h.2.2.2.2.2.2; exact ⟨m3, h1⟩) (fun i j H' h => .inr ?_) ⟨x1, x2, x3, x4, x5, x7, m2, x6, fun a b _ _ h => by omega⟩ ?_ ?_ ?_
      · obtain ⟨h1, h2, h3, h4, h5, h6, m3, h7, h8⟩ := h
        exact ⟨get_take h1 (by show 1 < H6.length; omega), get_take h2 (by show A < H6.length; omega), get_take h3 (by show q < H6.length; omega), get_take h4 (by show H2.length + 1 < H6.length; omega), get_take h5 (by show H2.length < H6.length; omega), get_take h6 (by show C < H6.length; omega), m3, get_take h7 (by show q2 < H6.length; omega), h8⟩
      · rintro i j H7 K' hi hj ⟨h1, h2, h3, h4, h5, h6, m3, h7, h8⟩ hk'
        refine shift_f (n := M + 1 + 1) (n2 := M + 1) (B := H2.length) (i := k) hk2 rfl (by omega) hi hj h3 h7 h2 h4 h5 h6 ?_
        refine hk' _ ⟨get_ne h1 (by omega), get_ne h2 (by omega), get_ne h3 (by omega), get_ne h4 (by omega), get_ne h5 (by omega), get_ne h6 (by omega), _, sq_self h7, fun a b ha hb hlt => ?_⟩
        by_cases e : a = i ∧ b = j
        · obtain ⟨rfl, rfl⟩ := e
          rw [up2_eq]
          exact hm _ _ (ord_lt hk2 ha) (ord_lt hk2 hb)
        · rw [up2_ne e]; exact h8 a b ha hb (by omega)
      · rintro i H7 hi ⟨h1, h2, h3, h4, h5, h6, m3, h7, h8⟩
        exact ⟨h1, h2, h3, h4, h5, h6, m3, h7, fun a b ha hb hlt => h8 a b ha hb (by omega)⟩
      rintro H7 ⟨f1, f2, f3, f4, f5, f6, m3, f7, f8⟩
      have hmat : (matL (M + 1) fun j l => ent d (ord k j) (ord k l)) = matL (M + 1) m3 := matL_congr (fun a b ha hb => (f8 a b ha hb (by omega)).symm)
      rw [hmat] at hh
      have hl7 := get_lt f6
      refine O_nil ?_
      refine Gh_e ⟨⟨47, [(4, .po 1 0), (10, .po C 0)]⟩, H7⟩ ?_
      refine W_seq ?_
      refine W_gh ?_
      refine W_reg ?_
      refine O_ldb (o := 0) f6 (by kernel_rfl) rfl ?_
      refine O_wc (xs := [.po q2 0]) (by kernel_rfl) (by kernel_rfl) ?_
      refine limited_eq (n := M + 1) (by omega) (by omega) f7 (fun H8 hb hf8 => ?_) (fun b rid H8 hb hnb hf8 => ?_)
      · replace hf8 : Fr H7.length H7 H8 := hf8
        have hbig : big (matL (M + 1) m3) = true := bigL.2 hb
        rw [hbig, cond_true] at hh
        subst hh
        have g2 : H8[1]? = some (.lv 2 [.i 0, .ro []]) := (hf8 1 (by omega)).trans f1
        refine O_q 2 ?_
        refine O_st (o := 0) (sz := 2) (cs := [.i 0, .ro []]) (id := 1) [.i 0, .ro []] [.i 0, .ro []] g2 ?_
        refine O_q 1 ?_
        refine O_nil ?_
        refine Gh_e ⟨⟨47, [(4, .po 1 0), (5, .i 11)]⟩, H8.set 1 (.lv 2 [.i 0, .ro []])⟩ ?_
        refine W_ret ?_
        exact Fin_free (l := [.agg [.i 0, .ro []], .i 11]) (res_box rfl (sq_self g2) rfl rfl) rfl rfl
      · replace hf8 : Fr H7.length H7 H8 := hf8
        replace hnb : NB H7.length H8 b (M + 1) m3 rid := hnb
        have hbig : big (matL (M + 1) m3) = false := by
          cases e : big (matL (M + 1) m3) with
          | false => rfl
          | true => exact (hb (bigL.1 e)).elim
        rw [hbig, cond_false] at hh
        subst hh
        have g2 : H8[1]? = some (.lv 2 [.i 0, .ro []]) := (hf8 1 (by omega)).trans f1
        refine O_q 2 ?_
        refine O_st (o := 0) (sz := 2) (cs := [.i 0, .ro []]) (id := 1) [.i ((M + 1 - 1 : Nat) : Int), .own b (M + 1) 0 (M + 1)] [.i ((M + 1 - 1 : Nat) : Int), .own b (M + 1) 0 (M + 1)] g2 ?_
        refine O_q 1 ?_
        refine O_nil ?_
        refine Gh_e ⟨⟨47, [(4, .po 1 0), (5, .i 0)]⟩, H8.set 1 (.lv 2 [.i ((M + 1 - 1 : Nat) : Int), .own b (M + 1) 0 (M + 1)])⟩ ?_
        refine W_ret ?_
        refine Fin_pk (l := [.agg [.i ((M + 1 - 1 : Nat) : Int), .own b (M + 1) 0 (M + 1)], .i 0]) (res_box rfl (sq_self g2) rfl rfl) (pk_tup (mapO_cons (pk_agg (mapO_cons (y := .i (a0.N - 1)) ?_ (mapO_cons (y := .ro ((matL (M + 1) m3).map (cL cI_i64))) ?_ rfl))) rfl))
        · rw [hN, show ((M + 1 : Nat) : Int) - 1 = ((M + 1 - 1 : Nat) : Int) by omega]; exact pk_free rfl
        · exact pk_NB (hnb.set (by omega))
end G11

namespace G11
open Go hiding Obj mark
open Go.Pl Go.Am Go.Am.As
set_option linter.unusedVariables false

/-- the number of the error of bounds with the index of a time -/
theorem p58 {a0 : SBounds} {a1 c e : Int} (e28 : m28 a0 = some c) (hR : c = 0 → Right a0) (h6 : c = 0 → 1 ≤ a1 → a1 ≤ a0.N → ¬ a0.N > 6)
    (he : e = (bif (c != 0) then c else bif (decide (a1 < 1) || decide (a1 > a0.N)) then 2 else bif !possL a0.Most then 16 else 0)) : Pt E0 hp 58 [.agg (cSBounds a0), .i a1] (.i e) := by
  refine Pt_W fn58 rfl (by decide) ?_
  refine W_seq ?_
  refine W_gh ?_
  refine W_reg ?_
  refine O_p 2 ?_
  refine O_nil ?_
  refine Gh_e ⟨⟨22, [(1, .i a1), (2, .po 0 0)]⟩, [.lv 2 (cSBounds a0)]⟩ ?_
  refine W_seq ?_
  refine W_seq ?_
  refine W_gh ?_
  refine W_reg ?_
  refine O_p 1 ?_
  refine O_pt (xs := [.agg (cSBounds a0)]) (by kernel_rfl) (bels_cons (okSBounds.bel a0) rfl) rfl (p28 a0 c e28) ?_
  refine O_p 1 ?_
  refine O_nil ?_
  refine Gh_e ⟨⟨22, [(1, .i a1), (2, .po 0 0), (5, .i c)]⟩, [.lv 2 (cSBounds a0)]⟩ ?_
  refine W_seq ?_
  refine W_gh ?_
  refine W_reg ?_
  refine O_p 2 ?_
  refine O_nil ?_
  refine Gh_e ⟨⟨22, [(1, .i a1), (2, .po 0 0), (5, .i c), (9, .bool (c != 0))]⟩, [.lv 2 (cSBounds a0)]⟩ ?_
  refine W_gh ?_
  refine W_cond (c := (c != 0)) (by kernel_rfl) (fun hc => ?_) (fun hc => ?_)
  · rw [hc, cond_true] at he
    subst he
    refine W_seq ?_
    refine W_gh ?_
    refine W_reg ?_
    refine O_p 2 ?_
    refine O_nil ?_
    refine Gh_e ⟨⟨22, [(1, .i a1), (2, .po 0 0), (4, .i e), (9, .bool (e != 0))]⟩, [.lv 2 (cSBounds a0)]⟩ ?_
    refine W_ret ?_
    exact Fin_free (l := [.i e]) (by kernel_rfl) rfl rfl
  have hc0 : c = 0 := by simpa using hc
  subst hc0
  simp only [show ((0 : Int) != 0) = false from rfl, cond_false] at he
  refine W_skip ?_
  refine Gh_e ⟨⟨22, [(1, .i a1), (2, .po 0 0)]⟩, [.lv 2 (cSBounds a0)]⟩ ?_
  refine W_seq ?_
  refine W_seq ?_
  refine W_gh ?_
  refine W_reg ?_
  have hbad : (decide (a1 < 1) || decide (a1 > a0.N)) = true → W E0 hp (.seq (.reg [L11.o 4 (.mov (.c (.int .i64 2)))]) .ret) 0 (fun _ => False) (fun _ _ => False) (Fin [.inl 4] (.i e)) ⟨⟨22, [(2, .po 0 0), (18, .bool true)]⟩, [.lv 2 (cSBounds a0)]⟩ := by
    intro hcc
    rw [hcc, cond_true] at he
    subst he
    refine W_seq ?_
    refine W_reg ?_
    refine O_p 1 ?_
    refine O_nil ?_
    refine W_ret ?_
    exact Fin_free (l := [.i 2]) (by kernel_rfl) rfl rfl
  refine O_p 3 ?_
  refine O_fork (n := 13) (decide (a1 < 1)) (by kernel_rfl) (fun c1 => ?_) (fun c1 => ?_)
  · refine O_p 5 ?_
    refine O_nil ?_
    refine Gh_e ⟨⟨22, [(2, .po 0 0), (18, .bool true)]⟩, [.lv 2 (cSBounds a0)]⟩ ?_
    refine W_gh ?_
    refine W_cond (c := true) (by kernel_rfl) (fun _ => ?_) (fun c => by simp at c)
    exact (hbad (by rw [c1]; rfl)).mono (fun _ h => h.elim) (fun _ _ h => h.elim) (fun _ h => h)
  refine O_p 5 ?_
  refine O_nil ?_
  refine Gh_e ⟨⟨22, [(2, .po 0 0), (18, .bool (decide (a1 > a0.N)))]⟩, [.lv 2 (cSBounds a0)]⟩ ?_
  refine W_gh ?_
  refine W_cond (c := decide (a1 > a0.N)) (by kernel_rfl) (fun c2 => ?_) (fun c2 => ?_)
  · rw [c2]
    exact (hbad (by rw [c2]; simp)).mono (fun _ h => h.elim) (fun _ _ h => h.elim) (fun _ h => h)
  rw [c1, c2] at he
  simp only [Bool.or_self, cond_false] at he
  have d1 := of_decide_eq_false c1
  have d2 := of_decide_eq_false c2
  obtain ⟨N, hN, hrt⟩ := (hR rfl).rt (h6 rfl (by omega) (by omega))
  have hcs : cSBounds a0 = [.i (N : Int), .ro (a0.Most.map (cL cI_i64))] := by rw [cSB, hN]
  refine W_skip ?_
  refine Gh_e ⟨⟨22, [(2, .po 0 0)]⟩, [.lv 2 (cSBounds a0)]⟩ ?_
  refine W_seq ?_
  refine W_seq ?_
  refine W_gh ?_
  refine W_reg ?_
  refine O_p 1 ?_
  refine O_pt (xs := [.agg (cSBounds a0)]) (by kernel_rfl) (bels_cons (okSBounds.bel a0) rfl) rfl (by rw [hcs]; exact p49 hrt) ?_
  refine O_p 1 ?_
  refine O_nil ?_
  refine Gh_e ⟨⟨22, [(21, .bool (!possL a0.Most))]⟩, [.lv 2 (cSBounds a0)]⟩ ?_
  refine W_gh ?_
  refine W_cond (c := !possL a0.Most) (by kernel_rfl) (fun hc => ?_) (fun hc => ?_)
  · rw [hc, cond_true] at he
    subst he
    refine W_seq ?_
    refine W_reg ?_
    refine O_p 1 ?_
    refine O_nil ?_
    refine W_ret ?_
    exact Fin_free (l := [.i 16]) (by kernel_rfl) rfl rfl
  · rw [hc, cond_false] at he
    subst he
    refine W_skip ?_
    refine Gh_e ⟨⟨22, []⟩, [.lv 2 (cSBounds a0)]⟩ ?_
    refine W_seq ?_
    refine W_reg ?_
    refine O_p 1 ?_
    refine O_nil ?_
    refine W_ret ?_
    exact Fin_free (l := [.i 0]) (by kernel_rfl) rfl rfl

theorem p24 (a0 : SBounds) (a1 : Int) (r : SBounds × Int) (h : m24 a0 a1 = some r) : Pt E0 hp 24 [.agg (cSBounds a0), .i a1] (.tup [.agg [.i r.1.N, .ro (r.1.Most.map (cL cI_i64))], .i r.2]) := by
  obtain ⟨c, e28, _, hR⟩ := check_eq0 a0
  unfold m24 at h
  rw [e28] at h
  simp only [Option.bind_some] at h
  have h6 : c = 0 → 1 ≤ a1 → a1 ≤ a0.N → ¬ a0.N > 6 := by
    intro hc h1 h2 h6
    subst hc
    rw [show ((0 : Int) != 0) = false from rfl, cond_false, show (decide (a1 < 1) || decide (a1 > a0.N)) = false by simp; omega, cond_false, decide_eq_true h6, cond_true] at h
    cases h
  obtain ⟨e, he⟩ : ∃ e : Int, e = (bif (c != 0) then c else bif (decide (a1 < 1) || decide (a1 > a0.N)) then 2 else bif !possL a0.Most then 16 else 0) := ⟨_, rfl⟩
  have h58 := p58 e28 hR h6 he
  refine Pt_W fn24 rfl (by decide) ?_
  refine W_seq ?_
  refine W_gh ?_
  refine W_reg ?_
  refine O_p 3 ?_
  refine O_nil ?_
  refine Gh_e ⟨⟨45, [(1, .i a1), (2, .po 0 0), (4, .po 1 0)]⟩, [.lv 2 (cSBounds a0), .lv 2 [.i 0, .ro []]]⟩ ?_
  refine W_seq ?_
  refine W_seq ?_
  refine W_gh ?_
  refine W_reg ?_
  refine O_p 2 ?_
  refine O_pt (xs := [.agg (cSBounds a0), .i a1]) (by kernel_rfl) (bels_cons (okSBounds.bel a0) rfl) rfl h58 ?_
  refine O_p 1 ?_
  refine O_nil ?_
  refine Gh_e ⟨⟨45, [(1, .i a1), (2, .po 0 0), (4, .po 1 0), (6, .i e)]⟩, [.lv 2 (cSBounds a0), .lv 2 [.i 0, .ro []]]⟩ ?_
  refine W_seq ?_
  refine W_gh ?_
  refine W_reg ?_
  refine O_p 2 ?_
  refine O_nil ?_
  refine Gh_e ⟨⟨45, [(1, .i a1), (2, .po 0 0), (4, .po 1 0), (6, .i e), (13, .bool (e != 0))]⟩, [.lv 2 (cSBounds a0), .lv 2 [.i 0, .ro []]]⟩ ?_
  refine W_gh ?_
  refine W_cond (c := (e != 0)) (by kernel_rfl) (fun hc => ?_) (fun hc => ?_)
  · have hr : r = (⟨0, []⟩, e) := by
      cases hcc : (c != 0)
      · rw [hcc, cond_false] at h he
        cases ho : (decide (a1 < 1) || decide (a1 > a0.N))
        · rw [ho, cond_false] at h he
          cases h6' : decide (a0.N > 6)
          · rw [h6', cond_false] at h
            injection h with h
            cases hp : possL a0.Most
            · rw [hp] at h he
              simp only [Bool.not_false, cond_true] at h he
              rw [he]; exact h.symm
            · rw [hp] at he
              simp only [Bool.not_true, cond_false] at he
              rw [he] at hc; cases hc
          · rw [h6', cond_true] at h; cases h
        · rw [ho, cond_true] at h he
          injection h with h
          rw [he]; exact h.symm
      · rw [hcc, cond_true] at h he
        injection h with h
        rw [he]; exact h.symm
    subst hr
    refine W_seq ?_
    refine W_gh ?_
    refine W_reg ?_
    refine O_p 4 ?_
    refine O_nil ?_
    refine Gh_e ⟨⟨45, [(1, .i a1), (2, .po 0 0), (4, .po 1 0), (5, .i e), (13, .bool (e != 0))]⟩, [.lv 2 (cSBounds a0), .lv 2 [.i 0, .ro []]]⟩ ?_
    refine W_ret ?_
    exact Fin_free (l := [.agg [.i 0, .ro []], .i e]) (by kernel_rfl) (by kernel_rfl) rfl
  -- no error
  have he0 : e = 0 := by simpa using hc
  subst he0
  have hcz : c = 0 := by
    rcases Int.decEq c 0 with g | g
    · rw [show (c != 0) = true by simpa using g, cond_true] at he; exact he.symm
    · exact g
  subst hcz
  simp only [show ((0 : Int) != 0) = false from rfl, cond_false] at h he
  cases ho : (decide (a1 < 1) || decide (a1 > a0.N))
  case true => rw [ho, cond_true] at he; cases he
  rw [ho, cond_false] at h he
  cases hps : possL a0.Most
  case false => rw [hps] at he; cases he
  rw [hps] at h
  have hrg : 1 ≤ a1 ∧ a1 ≤ a0.N := by
    simp only [Bool.or_eq_false_iff, decide_eq_false_iff_not] at ho
    omega
  have hN6 := h6 rfl hrg.1 hrg.2
  rw [decide_eq_false hN6, cond_false] at h
  simp only [Bool.not_true, cond_false] at h
  injection h with h
  obtain ⟨N, hN, hrt⟩ := (hR rfl).rt hN6
  have hN7 := hrt.hN
  obtain ⟨k, rfl⟩ : ∃ k : Nat, a1 = (k : Int) := ⟨a1.toNat, by omega⟩
  have hk1 : 1 ≤ k := by omega
  have hk2 : k ≤ N := by omega
  have hcs : cSBounds a0 = [.i (N : Int), .ro (a0.Most.map (cL cI_i64))] := by rw [cSB, hN]
  rw [Int.toNat_natCast, hrt.sq.1] at h
  refine W_skip ?_
  refine Gh_e ⟨⟨45, [(1, .i (k : Int)), (2, .po 0 0), (4, .po 1 0)]⟩, [.lv 2 (cSBounds a0), .lv 2 [.i 0, .ro []]]⟩ ?_
  refine W_seq ?_
  refine W_gh ?_
  refine W_reg ?_
  refine O_p 1 ?_
  refine O_wc (xs := [.agg [.i (N : Int), .ro (a0.Most.map (cL cI_i64))]]) (by kernel_rfl) (by rw [← hN]; kernel_rfl) ?_
  refine paths_eq hrt (fun b rid m H1 hnc hm hf => ?_)
  replace hf : Fr 2 [.lv 2 (cSBounds a0), .lv 2 [.i 0, .ro []]] H1 := hf
  replace hnc : NC 2 H1 b (N + 1) m rid .nil .norm := hnc
  refine O_alloc (sz := 2) H1.length (H1 ++ [.lv 2 [.i 0, .nils]]) rfl ?_
  refine O_st (o := 0) (sz := 2) (cs := [.i 0, .nils]) (id := H1.length) [.i (N : Int), .own b (N + 1) 0 (N + 1)] [.i (N : Int), .own b (N + 1) 0 (N + 1)] get_last ?_
  refine O_nil ?_
  rw [show (H1 ++ [Obj.lv 2 [.i 0, .nils]]).set H1.length (.lv 2 [.i (N : Int), .own b (N + 1) 0 (N + 1)]) = H1 ++ [.lv 2 [.i (N : Int), .own b (N + 1) 0 (N + 1)]] by simp]
  refine Gh_one (s1 := ⟨⟨45, [(1, .i (k : Int)), (2, .po 0 0), (4, .po 1 0), (7, .po H1.length 0)]⟩, H1 ++ [.lv 2 [.i (N : Int), .own b (N + 1) 0 (N + 1)]]⟩) (by kernel_rfl) ?_
  refine Gh_wkp (id := H1.length) (cs' := [.i (N : Int), .own b (N + 1) 0 (N + 1)]) get_last rfl rfl rfl ?_
  refine Gh_nil ?_
  show W E0 hp _ _ _ _ _ ⟨_, (H1 ++ [Obj.lv 2 [.i (N : Int), .own b (N + 1) 0 (N + 1)]]).set H1.length (.lv 2 [.i (N : Int), .own b (N + 1) 0 (N + 1)])⟩
  rw [show (H1 ++ [Obj.lv 2 [.i (N : Int), .own b (N + 1) 0 (N + 1)]]).set H1.length (.lv 2 [.i (N : Int), .own b (N + 1) 0 (N + 1)]) = H1 ++ [.lv 2 [.i (N : Int), .own b (N + 1) 0 (N + 1)]] by simp]
  have t0 : (H1 ++ [Obj.lv 2 [.i (N : Int), .own b (N + 1) 0 (N + 1)]])[0]? = some (.lv 2 [.i (N : Int), .ro (a0.Most.map (cL cI_i64))]) := get_app ((hf 0 (by omega)).trans (by rw [hcs]; rfl))
  have t1 : (H1 ++ [Obj.lv 2 [.i (N : Int), .own b (N + 1) 0 (N + 1)]])[1]? = some (.lv 2 [.i 0, .ro []]) := get_app (hf 1 (by omega))
  have t2 : (H1 ++ [Obj.lv 2 [.i (N : Int), .own b (N + 1) 0 (N + 1)]])[H1.length]? = some (.lv 2 [.i (N : Int), .own b (N + 1) 0 (N + 1)]) := get_last
  have t3 : NC 2 (H1 ++ [Obj.lv 2 [.i (N : Int), .own b (N + 1) 0 (N + 1)]]) b (N + 1) m rid .nil .norm := hnc.ext Fr.app
  generalize H1 ++ [Obj.lv 2 [.i (N : Int), .own b (N + 1) 0 (N + 1)]] = H2 at t0 t1 t2 t3 ⊢
  generalize H1.length = A at t2 ⊢
  refine W_seq ?_
  refine W_seq ?_
  refine W_reg ?_
  refine O_q 1 ?_
  refine O_nil ?_
  refine W_gh (W_block ?_)
  refine W_lp (fun s' => ∃ (t : Nat) (H3 : List Obj), s' = ⟨⟨45, [(1, .i (k : Int)), (2, .po 0 0), (4, .po 1 0), (7, .po A 0), (8, .i (t : Int))]⟩, H3⟩ ∧ t ≤ N + 1 ∧ H3[0]? = some (.lv 2 [.i (N : Int), .ro (a0.Most.map (cL cI_i64))]) ∧ H3[1]? = some (.lv 2 [.i 0, .ro []]) ∧ H3[A]? = some (.lv 2 [.i (N : Int), .own b (N + 1) 0 (N + 1)]) ∧
      ∃ m', NC 2 H3 b (N + 1) m' rid .nil .norm ∧ ∀ x y, x < N + 1 → y < N + 1 → m' x y = if x ≠ y ∧ (x = k ∧ y < t ∨ y = k ∧ x < t) then -1099511627776 else ent (pathL a0.Most) x y)
    (fun s' => match s'.tmps.get 8 with | .int _ t => N + 1 - t.toNat | _ => 0) ⟨0, H2, rfl, by omega, t0, t1, t2, m, t3, fun x y hx hy => by rw [if_neg (by omega)]; exact hm x y hx hy⟩ ?_
  rintro s' ⟨t, H3, rfl, ht, u0, u1, u2, m', u3, u4⟩
  refine W_gh ?_
  refine W_seq ?_
  refine W_seq ?_
  refine W_gh ?_
  refine W_reg ?_
  refine O_q 2 ?_
  refine O_ldb (o := 0) u0 (by kernel_rfl) rfl ?_
  refine O_q 1 ?_
  refine O_nil ?_
  refine Gh_e ⟨⟨45, [(1, .i (k : Int)), (2, .po 0 0), (4, .po 1 0), (7, .po A 0), (8, .i (t : Int)), (21, .bool (decide ((t : Int) ≤ (N : Int))))]⟩, H3⟩ ?_
  refine W_gh ?_
  refine W_cond (c := decide ((t : Int) ≤ (N : Int))) (by kernel_rfl) (fun c => ?_) (fun c => ?_)
  · have c3 : t < N + 1 := by have := of_decide_eq_true c; omega
    refine W_skip ?_
    refine Gh_e ⟨⟨45, [(1, .i (k : Int)), (2, .po 0 0), (4, .po 1 0), (7, .po A 0), (8, .i (t : Int))]⟩, H3⟩ ?_
    refine W_seq ?_
    refine W.mono (N := fun s' => ∃ H4, s' = ⟨⟨45, [(1, .i (k : Int)), (2, .po 0 0), (4, .po 1 0), (7, .po A 0), (8, .i (t : Int))]⟩, H4⟩ ∧ H4[0]? = some (.lv 2 [.i (N : Int), .ro (a0.Most.map (cL cI_i64))]) ∧ H4[1]? = some (.lv 2 [.i 0, .ro []]) ∧ H4[A]? = some (.lv 2 [.i (N : Int), .own b (N + 1) 0 (N + 1)]) ∧
        ∃ m', NC 2 H4 b (N + 1) m' rid .nil .norm ∧ ∀ x y, x < N + 1 → y < N + 1 → m' x y = if x ≠ y ∧ (x = k ∧ y < t + 1 ∨ y = k ∧ x < t + 1) then -1099511627776 else ent (pathL a0.Most) x y) (W_gh (W_block ?_)) (fun s' hs' => ?_) (fun _ _ h => h) (fun _ h => h)
    · refine W_seq ?_
      refine W_gh ?_
      refine W_reg ?_
      refine O_q 3 ?_
      refine O_nil ?_
      refine Gh_e ⟨⟨45, [(1, .i (k : Int)), (2, .po 0 0), (4, .po 1 0), (7, .po A 0), (8, .i (t : Int)), (26, .bool ((t : Int) != (k : Int)))]⟩, H3⟩ ?_
      refine W_gh ?_
      refine W_cond (c := ((t : Int) != (k : Int))) (by kernel_rfl) (fun c4 => ?_) (fun c4 => ?_)
      · have c5 : t ≠ k := by intro e; rw [e] at c4; simp at c4
        have hkN : k < N + 1 := by omega
        refine W_gh ?_
        refine W_draw ?_
        refine O_q 1 ?_
        refine O_ldb (o := 1) u2 (by kernel_rfl) rfl ?_
        refine O_q 1 ?_
        refine O_owld (n := N + 1) (i := k) (v := .own (rid k) (N + 1) 0 (N + 1)) u3.top (by simp) (mr_get hkN) ?_
        refine O_q 2 ?_
        refine O_ldb (o := 1) u2 (by kernel_rfl) rfl ?_
        refine O_q 1 ?_
        refine O_owld (n := N + 1) (i := t) (v := .own (rid t) (N + 1) 0 (N + 1)) u3.top (by simp) (mr_get c3) ?_
        refine O_q 1 ?_
        refine O_owst (i := t) (v' := .i (-1099511627776)) (u3.row k hkN) fo_len (fo_get c3) rfl ?_
        have n1 := u3.put (v := -1099511627776) hkN c3
        have r0 := u3.lr k hkN
        have hrA := ne_get u2 (u3.row k hkN) (fun e => obj_ne1 e.symm)
        have y0 : (H3.set (rid k) (.live .norm 1 (((rowL (N + 1) (m' k)).map cI_i64).set t [.i (-1099511627776)])))[0]? = some (.lv 2 [.i (N : Int), .ro (a0.Most.map (cL cI_i64))]) := get_ne u0 (by omega)
        have y1 : (H3.set (rid k) (.live .norm 1 (((rowL (N + 1) (m' k)).map cI_i64).set t [.i (-1099511627776)])))[1]? = some (.lv 2 [.i 0, .ro []]) := get_ne u1 (by omega)
        have y2 : (H3.set (rid k) (.live .norm 1 (((rowL (N + 1) (m' k)).map cI_i64).set t [.i (-1099511627776)])))[A]? = some (.lv 2 [.i (N : Int), .own b (N + 1) 0 (N + 1)]) := get_ne u2 hrA
        generalize H3.set (rid k) (.live .norm 1 (((rowL (N + 1) (m' k)).map cI_i64).set t [.i (-1099511627776)])) = H4 at n1 y0 y1 y2 ⊢
        refine O_owst (i := k) (v' := .i (-1099511627776)) (n1.row t c3) fo_len (fo_get hkN) rfl ?_
        have n2 := n1.put (v := -1099511627776) c3 hkN
        have r1 := n1.lr t c3
        have hrA2 := ne_get y2 (n1.row t c3) (fun e => obj_ne1 e.symm)
        have z0 := get_ne (o' := .live .norm 1 (((rowL (N + 1) (up2 m' k t (-1099511627776) t)).map cI_i64).set k [.i (-1099511627776)])) y0 (show 0 ≠ rid t by omega)
        have z1 := get_ne (o' := .live .norm 1 (((rowL (N + 1) (up2 m' k t (-1099511627776) t)).map cI_i64).set k [.i (-1099511627776)])) y1 (show 1 ≠ rid t by omega)
        have z2 := get_ne (o' := .live .norm 1 (((rowL (N + 1) (up2 m' k t (-1099511627776) t)).map cI_i64).set k [.i (-1099511627776)])) y2 hrA2
        generalize H4.set (rid t) (.live .norm 1 (((rowL (N + 1) (up2 m' k t (-1099511627776) t)).map cI_i64).set k [.i (-1099511627776)])) = H5 at n2 z0 z1 z2 ⊢
        refine O_nil ?_
        refine Gh_e ⟨⟨45, [(1, .i (k : Int)), (2, .po 0 0), (4, .po 1 0), (7, .po A 0), (8, .i (t : Int)), (26, .bool ((t : Int) != (k : Int)))]⟩, H5⟩ ?_
        refine Gh_e ⟨⟨45, [(1, .i (k : Int)), (2, .po 0 0), (4, .po 1 0), (7, .po A 0), (8, .i (t : Int))]⟩, H5⟩ ?_
        refine Gh_e ⟨⟨45, [(1, .i (k : Int)), (2, .po 0 0), (4, .po 1 0), (7, .po A 0), (8, .i (t : Int))]⟩, H5⟩ ?_
        refine ⟨H5, rfl, z0, z1, z2, _, n2, fun x y hx hy => ?_⟩
        by_cases e1 : x = t ∧ y = k
        · obtain ⟨rfl, rfl⟩ := e1
          rw [up2_eq, if_pos ⟨c5, by omega⟩]
        · rw [up2_ne e1]
          by_cases e2 : x = k ∧ y = t
          · obtain ⟨rfl, rfl⟩ := e2
            rw [up2_eq, if_pos ⟨by omega, by omega⟩]
          · rw [up2_ne e2, u4 x y hx hy]
            by_cases e3 : x ≠ y ∧ (x = k ∧ y < t ∨ y = k ∧ x < t)
            · rw [if_pos e3, if_pos ⟨e3.1, by omega⟩]
            · rw [if_neg e3, if_neg (fun g => e3 ⟨g.1, by omega⟩)]
      · have c5 : t = k := by have : (t : Int) = (k : Int) := by simpa using c4
                              omega
        refine W_skip ?_
        refine Gh_e ⟨⟨45, [(1, .i (k : Int)), (2, .po 0 0), (4, .po 1 0), (7, .po A 0), (8, .i (t : Int))]⟩, H3⟩ ?_
        refine Gh_e ⟨⟨45, [(1, .i (k : Int)), (2, .po 0 0), (4, .po 1 0), (7, .po A 0), (8, .i (t : Int))]⟩, H3⟩ ?_
        refine ⟨H3, rfl, u0, u1, u2, m', u3, fun x y hx hy => ?_⟩
        rw [u4 x y hx hy]
        by_cases e3 : x ≠ y ∧ (x = k ∧ y < t ∨ y = k ∧ x < t)
        · rw [if_pos e3, if_pos ⟨e3.1, by omega⟩]
        · rw [if_neg e3, if_neg (fun g => e3 ⟨g.1, by omega⟩)]
    · obtain ⟨H4, rfl, v0, v1, v2, m2, v3, v4⟩ := hs'
      refine W_gh ?_
      refine W_reg ?_
      refine O_q 3 ?_
      refine O_nil ?_
      refine Gh_e ⟨⟨45, [(1, .i (k : Int)), (2, .po 0 0), (4, .po 1 0), (7, .po A 0), (8, .i (addI .i64 (t : Int) 1))]⟩, H4⟩ ?_
      rw [addI_nat (k := t) (by omega)]
      refine Gh_e ⟨⟨45, [(1, .i (k : Int)), (2, .po 0 0), (4, .po 1 0), (7, .po A 0), (8, .i ((t + 1 : Nat) : Int))]⟩, H4⟩ ?_
      refine ⟨⟨t + 1, H4, rfl, by omega, v0, v1, v2, m2, v3, v4⟩, ?_⟩
      show N + 1 - (((t + 1 : Nat) : Int)).toNat < N + 1 - ((t : Int)).toNat
      omega
  · have c3 := of_decide_eq_false c
    obtain rfl : t = N + 1 := by omega
    have hmat : forgetL (pathL a0.Most) (N + 1) k = matL (N + 1) m' := matL_congr (fun x y hx hy => by
      rw [u4 x y hx hy]
      by_cases e3 : x ≠ y ∧ (x = k ∨ y = k)
      · rw [if_pos e3, if_pos ⟨e3.1, by omega⟩]
      · rw [if_neg e3, if_neg (fun g => e3 ⟨g.1, by omega⟩)])
    rw [hmat] at h
    have hl3 := get_lt u2
    have hl31 := get_lt u1
    refine W_exit ?_
    refine X_hit ?_
    refine Gh_e ⟨⟨45, [(4, .po 1 0), (7, .po A 0)]⟩, H3⟩ ?_
    refine W_seq ?_
    refine W_gh ?_
    refine W_reg ?_
    refine O_lda u2 (by kernel_rfl) rfl ?_
    refine O_wc (xs := [.agg [.i (N : Int), .own b (N + 1) 0 (N + 1)]]) (by kernel_rfl) (by kernel_rfl) ?_
    refine checked_eq (m := m') (by omega) u3.mat (fun H4 hb hf4 => ?_) (fun H4 hb hf4 => ?_)
    · replace hf4 : Fr H3.length H3 H4 := hf4
      rw [show big (matL (N + 1) m') = true from bigL.2 hb, cond_true] at h
      subst h
      have g2 : H4[1]? = some (.lv 2 [.i 0, .ro []]) := (hf4 1 hl31).trans u1
      refine O_q 2 ?_
      refine O_st (o := 0) (sz := 2) (cs := [.i 0, .ro []]) (id := 1) [.i 0, .ro []] [.i 0, .ro []] g2 ?_
      refine O_q 1 ?_
      refine O_nil ?_
      refine Gh_e ⟨⟨45, [(4, .po 1 0), (5, .i 11)]⟩, H4.set 1 (.lv 2 [.i 0, .ro []])⟩ ?_
      refine W_ret ?_
      exact Fin_free (l := [.agg [.i 0, .ro []], .i 11]) (res_box rfl (sq_self g2) rfl rfl) rfl rfl
    · replace hf4 : Fr H3.length H3 H4 := hf4
      have hbig : big (matL (N + 1) m') = false := by
        cases e : big (matL (N + 1) m') with
        | false => rfl
        | true => exact (hb (bigL.1 e)).elim
      rw [hbig, cond_false] at h
      subst h
      have g2 : H4[1]? = some (.lv 2 [.i 0, .ro []]) := (hf4 1 hl31).trans u1
      refine O_q 2 ?_
      refine O_st (o := 0) (sz := 2) (cs := [.i 0, .ro []]) (id := 1) [.i (N : Int), .own b (N + 1) 0 (N + 1)] [.i (N : Int), .own b (N + 1) 0 (N + 1)] g2 ?_
      refine O_q 1 ?_
      refine O_nil ?_
      refine Gh_e ⟨⟨45, [(4, .po 1 0), (5, .i 0)]⟩, H4.set 1 (.lv 2 [.i (N : Int), .own b (N + 1) 0 (N + 1)])⟩ ?_
      refine W_ret ?_
      refine Fin_pk (l := [.agg [.i (N : Int), .own b (N + 1) 0 (N + 1)], .i 0]) (res_box rfl (sq_self g2) rfl rfl) (pk_tup (mapO_cons (pk_agg (mapO_cons (y := .i a0.N) ?_ (mapO_cons (y := .ro ((matL (N + 1) m').map (cL cI_i64))) ?_ rfl))) rfl))
      · rw [hN]; exact pk_free rfl
      · exact ((u3.ext hf4).set (by omega)).pk
end G11

namespace G11
open Go hiding Obj mark
open Go.Pl Go.Am Go.Am.As
set_option linter.unusedVariables false

theorem Gh_any {b n : Nat} {gs : List GA} {s : ST} {N : ST → Prop} (P : List Obj → Prop) (h0 : P s.H) (h : T.belsL (b + n) s.tmps.l = false ∨ P (s.H.take (b + n))) (k : ∀ H', P H' → Gh b gs ⟨s.tmps, H'⟩ N) : Gh b (.trunc n :: gs) s N := by
  rcases h with h | h
  · exact Gh_keep h (k _ h0)
  · exact Gh_tr P h0 (.inr h) k

theorem free_eq {M : Nat} {H : List Obj} {K : AV → List Obj → Prop} (hM : M + 1 ≤ 100)
    (hk : ∀ b rid m H', NC H.length H' b (M + 1) m rid .nil .nil → Fr H.length H H' → K (.agg [.i (M : Int), .own b (M + 1) 0 (M + 1)]) H') : WC E0 hp false 61 [.i (M : Int)] H K := by
  refine W_call fn61 (.inl rfl) rfl (by decide) ?_
  refine W_seq ?_
  refine W_gh ?_
  refine W_reg ?_
  refine O_alloc (sz := 2) H.length (H ++ [.lv 2 [.i 0, .nils]]) rfl ?_
  refine O_nil ?_
  refine Gh_wkp (id := H.length) (cs' := [.i 0, .ro []]) get_last rfl rfl rfl ?_
  refine Gh_nil ?_
  refine W_at (s1 := ⟨⟨35, [(0, .i (M : Int)), (2, .po H.length 0)]⟩, H ++ [.lv 2 [.i 0, .ro []]]⟩) (by
    have e1 : (H ++ [Obj.lv 2 [.i 0, .nils]]).set H.length (.lv 2 [.i 0, .ro []]) = H ++ [.lv 2 [.i 0, .ro []]] := by simp
    show (⟨_, (H ++ [Obj.lv 2 [.i 0, .nils]]).set H.length (.lv 2 [.i 0, .ro []])⟩ : ST) = _
    rw [e1]; rfl) ?_
  refine W_seq ?_
  refine W_gh ?_
  refine W_reg ?_
  refine O_q 2 ?_
  refine O_alloc (sz := 2) (H.length + 1) (H ++ [.lv 2 [.i 0, .ro []], .lv 2 [.i 0, .nils]]) rfl ?_
  refine O_st (o := 0) (sz := 2) (cs := [.i 0, .nils]) (id := H.length + 1) [.i (M : Int), .nils] [.i (M : Int), .nils] (get_end 1 rfl) ?_
  refine O_nil ?_
  have e2 : (H ++ [Obj.lv 2 [.i 0, .ro []], .lv 2 [.i 0, .nils]]).set (H.length + 1) (.lv 2 [.i (M : Int), .nils]) = H ++ [.lv 2 [.i 0, .ro []], .lv 2 [.i (M : Int), .nils]] := by simp
  rw [e2]
  refine Gh_one (s1 := ⟨⟨35, [(0, .i (M : Int)), (2, .po H.length 0), (3, .po (H.length + 1) 0)]⟩, H ++ [.lv 2 [.i 0, .ro []], .lv 2 [.i (M : Int), .nils]]⟩) (by kernel_rfl) ?_
  refine Gh_promf (id := H.length + 1) (c0 := .i (M : Int)) (get_end 1 rfl) rfl ?_
  have e3 : ((H ++ [Obj.lv 2 [.i 0, .ro []], .lv 2 [.i (M : Int), .nils]]) ++ [Obj.live .nil 1 []]).set (H.length + 1) (.lv 2 [.i (M : Int), .own (H ++ [Obj.lv 2 [.i 0, .ro []], .lv 2 [.i (M : Int), .nils]]).length 0 0 0]) = H ++ [.lv 2 [.i 0, .ro []], .lv 2 [.i (M : Int), .own (H.length + 2) 0 0 0], .live .nil 1 []] := by simp
  show Gh H.length _ ⟨_, ((H ++ [Obj.lv 2 [.i 0, .ro []], .lv 2 [.i (M : Int), .nils]]) ++ [Obj.live .nil 1 []]).set (H.length + 1) (.lv 2 [.i (M : Int), .own (H ++ [Obj.lv 2 [.i 0, .ro []], .lv 2 [.i (M : Int), .nils]]).length 0 0 0])⟩ _
  rw [e3]
  refine Gh_wkp (id := H.length + 1) (cs' := [.i (M : Int), .own (H.length + 2) 0 0 0]) (get_end 1 rfl) rfl rfl rfl ?_
  refine Gh_nil ?_
  have e4 : (H ++ [Obj.lv 2 [.i 0, .ro []], .lv 2 [.i (M : Int), .own (H.length + 2) 0 0 0], .live .nil 1 []]).set (H.length + 1) (.lv 2 [.i (M : Int), .own (H.length + 2) 0 0 0]) = H ++ [.lv 2 [.i 0, .ro []], .lv 2 [.i (M : Int), .own (H.length + 2) 0 0 0], .live .nil 1 []] := by simp
  show W E0 hp _ _ _ _ _ ⟨_, (H ++ [Obj.lv 2 [.i 0, .ro []], .lv 2 [.i (M : Int), .own (H.length + 2) 0 0 0], .live .nil 1 []]).set (H.length + 1) (.lv 2 [.i (M : Int), .own (H.length + 2) 0 0 0])⟩
  rw [e4]
  have s0 : (H ++ [Obj.lv 2 [.i 0, .ro []], .lv 2 [.i (M : Int), .own (H.length + 2) 0 0 0], .live .nil 1 []])[H.length]? = some (.lv 2 [.i 0, .ro []]) := get_end 0 rfl
  have s1 : (H ++ [Obj.lv 2 [.i 0, .ro []], .lv 2 [.i (M : Int), .own (H.length + 2) 0 0 0], .live .nil 1 []])[H.length + 1]? = some (.lv 2 [.i (M : Int), .own (H.length + 2) 0 0 0]) := get_end 1 rfl
  have s2 : (H ++ [Obj.lv 2 [.i 0, .ro []], .lv 2 [.i (M : Int), .own (H.length + 2) 0 0 0], .live .nil 1 []])[H.length + 2]? = some (.live .nil 1 []) := get_end 2 rfl
  have s4 : (H ++ [Obj.lv 2 [.i 0, .ro []], .lv 2 [.i (M : Int), .own (H.length + 2) 0 0 0], .live .nil 1 []]).length = H.length + 3 := by simp
  have s5 : Fr H.length H (H ++ [Obj.lv 2 [.i 0, .ro []], .lv 2 [.i (M : Int), .own (H.length + 2) 0 0 0], .live .nil 1 []]) := Fr.app
  generalize H ++ [Obj.lv 2 [.i 0, .ro []], .lv 2 [.i (M : Int), .own (H.length + 2) 0 0 0], .live .nil 1 []] = H1 at s0 s1 s2 s4 s5 ⊢
  refine W_seq ?_
  refine W_seq ?_
  refine W_reg ?_
  refine O_q 1 ?_
  refine O_nil ?_
  -- k rows are there
  let J : Nat → List Obj → Prop := fun k H' => H'[H.length]? = some (.lv 2 [.i 0, .ro []]) ∧ H'[H.length + 1]? = some (.lv 2 [.i (M : Int), .own (H.length + 2) k 0 k]) ∧ Fr H.length H H' ∧ (k = 0 → H'.length = H.length + 3) ∧
    ∃ rid : Nat → Nat, H'[H.length + 2]? = some (.live .nil 1 ((List.range k).map fun i => [.own (rid i) (M + 1) 0 (M + 1)])) ∧ (∀ i, i < k → H'[rid i]? = some (.live .nil 1 ((rowL (M + 1) (freeM i)).map cI_i64)) ∧ H.length + 3 ≤ rid i) ∧ (∀ i, i < k → 1 ≤ i → H.length + 4 ≤ rid i) ∧ (0 < k → rid 0 = H.length + 3) ∧ (∀ i j, i < k → j < k → rid i = rid j → i = j)
  have hJ3 : ∀ k H', 0 < k → J k H' → NoT (H.length + 3) H' := by
    rintro k H' hk0 ⟨h1, h2, h3, h4, rid, h5, h6, h7, h8, h9⟩
    refine noT_ref h5 (by omega) ?_
    exact belss_get (i := 0) (by rw [List.getElem?_map, List.getElem?_range (by omega)]; rfl) (h6 0 (by omega)).2
  have hJ4 : ∀ k H', 0 < k → J k H' → NoT (H.length + 4) H' ∨ J k (H'.take (H.length + 4)) := by
    rintro k H' hk0 ⟨h1, h2, h3, h4, rid, h5, h6, h7, h8, h9⟩
    by_cases hk1 : k = 1
    · subst hk1
      refine .inr ⟨get_take h1 (by omega), get_take h2 (by omega), h3.take (by omega), fun h => by omega, rid, get_take h5 (by omega), fun i hi => ⟨get_take (h6 i hi).1 ?_, (h6 i hi).2⟩, h7, h8, h9⟩
      obtain rfl : i = 0 := by omega
      rw [h8 (by omega)]; omega
    · left
      refine noT_ref h5 (by omega) ?_
      exact belss_get (i := 1) (by rw [List.getElem?_map, List.getElem?_range (by omega)]; rfl) (h7 1 (by omega) (by omega))
  refine W_gh (W_block ?_)
  refine W_lp (fun s' => ∃ (k : Nat) (H' : List Obj), s' = ⟨⟨35, [(0, .i (M : Int)), (2, .po H.length 0), (3, .po (H.length + 1) 0), (4, .i (k : Int))]⟩, H'⟩ ∧ k ≤ M + 1 ∧ J k H') (fun s' => match s'.tmps.get 4 with | .int _ k => M + 1 - k.toNat | _ => 0)
    ⟨0, H1, rfl, by omega, s0, s1, s5, fun _ => s4, fun _ => 0, s2, fun i hi => by omega, fun i hi => by omega, fun h => by omega, fun i j hi => by omega⟩ ?_
  rintro s' ⟨k, H2, rfl, hkn, hJ⟩
  refine W_gh ?_
  refine W_seq ?_
  refine W_seq ?_
  refine W_gh ?_
  refine W_reg ?_
  refine O_q 3 ?_
  refine O_nil ?_
  refine Gh_e ⟨⟨35, [(0, .i (M : Int)), (2, .po H.length 0), (3, .po (H.length + 1) 0), (4, .i (k : Int)), (11, .bool (decide ((k : Int) ≤ (M : Int))))]⟩, H2⟩ ?_
  refine W_gh ?_
  refine W_cond (c := decide ((k : Int) ≤ (M : Int))) (by kernel_rfl) (fun c => ?_) (fun c => ?_)
  · have c3 : k < M + 1 := by have := of_decide_eq_true c; omega
    obtain ⟨h1, h2, h3, h4, rid, h5, h6, h7, h8, h9⟩ := hJ
    have hR : H.length + 3 ≤ H2.length ∧ (k = 0 → H2.length = H.length + 3) ∧ (1 ≤ k → H.length + 4 ≤ H2.length) := by
      refine ⟨by have := get_lt h5; omega, h4, fun h => ?_⟩
      have := get_lt (h6 0 (by omega)).1
      rw [h8 (by omega)] at this
      omega
    refine W_skip ?_
    refine Gh_e ⟨⟨35, [(0, .i (M : Int)), (2, .po H.length 0), (3, .po (H.length + 1) 0), (4, .i (k : Int))]⟩, H2⟩ ?_
    refine W_seq ?_
    refine W_gh ?_
    refine W_block ?_
    refine W_seq ?_
    refine W_gh ?_
    refine W_reg ?_
    refine O_q 1 ?_
    refine O_nil ?_
    refine Gh_e ⟨⟨35, [(0, .i (M : Int)), (2, .po H.length 0), (3, .po (H.length + 1) 0), (4, .i (k : Int)), (5, .own H2.length 0 0 0)]⟩, H2 ++ [.live .nil 1 []]⟩ ?_
    -- the row while it grows
    let P : Nat → List Obj → Prop := fun j H' => Fr H2.length H2 H' ∧ H'[H2.length]? = some (.live .nil 1 ((rowL j (freeM k)).map cI_i64))
    have hPt : ∀ j H' (r : List (Nat × AV)), P j H' → T.belsL (H.length + 4) ((5, .own H2.length j 0 j) :: r) = false ∨ P j (H'.take (H.length + 4)) := by
      rintro j H' r ⟨p1, p2⟩
      by_cases hk0 : k = 0
      · right
        have := hR.2.1 hk0
        exact ⟨p1.take (by omega), get_take p2 (by omega)⟩
      · left
        exact tb_bad (own_bad (hR.2.2 (by omega)))
    have hP0 : P 0 (H2 ++ [.live .nil 1 []]) := ⟨Fr.app, get_last⟩
    generalize H2 ++ [Obj.live .nil 1 []] = H3 at hP0 ⊢
    refine W_seq ?_
    refine W_seq ?_
    refine W_reg ?_
    refine O_q 1 ?_
    refine O_nil ?_
    refine W_gh (W_block ?_)
    refine W_lp (fun s' => ∃ (j : Nat) (H' : List Obj), s' = ⟨⟨35, [(0, .i (M : Int)), (2, .po H.length 0), (3, .po (H.length + 1) 0), (4, .i (k : Int)), (5, .own H2.length j 0 j), (6, .i (j : Int))]⟩, H'⟩ ∧ j ≤ M + 1 ∧ P j H') (fun s' => match s'.tmps.get 6 with | .int _ k => M + 1 - k.toNat | _ => 0) ⟨0, H3, rfl, by omega, hP0⟩ ?_
    rintro s' ⟨j, H4, rfl, hj, hP⟩
    refine W_gh ?_
    refine W_seq ?_
    refine W_seq ?_
    refine W_gh ?_
    refine W_reg ?_
    refine O_q 3 ?_
    refine O_nil ?_
    refine Gh_e ⟨⟨35, [(0, .i (M : Int)), (2, .po H.length 0), (3, .po (H.length + 1) 0), (4, .i (k : Int)), (5, .own H2.length j 0 j), (6, .i (j : Int)), (16, .bool (decide ((j : Int) ≤ (M : Int))))]⟩, H4⟩ ?_
    refine W_gh ?_
    refine W_cond (c := decide ((j : Int) ≤ (M : Int))) (by kernel_rfl) (fun c => ?_) (fun c => ?_)
    · have c4 : j < M + 1 := by have := of_decide_eq_true c; omega
      -- a number is put behind the row
      have happ : ∀ v : Int, freeM k j = v → P (j + 1) ((H4 ++ [Obj.live .norm 1 [[.i v]]]).set H2.length (.live .nil 1 (((rowL j (freeM k)).map cI_i64) ++ [[.i v]]))) := by
        rintro v hv
        have l1 : (H4 ++ [Obj.live .norm 1 [[.i v]]])[H2.length]? = some (.live .nil 1 ((rowL j (freeM k)).map cI_i64)) := get_app hP.2
        have ea : ((rowL j (freeM k)).map cI_i64) ++ [[.i v]] = (rowL (j + 1) (freeM k)).map cI_i64 := by
          unfold rowL; rw [List.range_succ, List.map_append, List.map_append, ← hv]; rfl
        rw [ea]
        exact ⟨(hP.1.trans Fr.app (by have := get_lt hP.2; omega)).set (Nat.le_refl _), sq_self l1⟩
      have hafter : ∀ H5 : List Obj, P (j + 1) H5 → ∀ c21 : Bool, Gh H.length [.kill [21], .trunc 4] ⟨⟨35, [(0, .i (M : Int)), (2, .po H.length 0), (3, .po (H.length + 1) 0), (4, .i (k : Int)), (5, .own H2.length (j + 1) 0 (j + 1)), (6, .i (j : Int)), (21, .bool c21)]⟩, H5⟩ (fun s' => Gh H.length [.kill [21], .trunc 4] s' (fun s' => ∃ H6, s' = ⟨⟨35, [(0, .i (M : Int)), (2, .po H.length 0), (3, .po (H.length + 1) 0), (4, .i (k : Int)), (5, .own H2.length (j + 1) 0 (j + 1)), (6, .i (j : Int))]⟩, H6⟩ ∧ P (j + 1) H6)) := by
        intro H5 p5 c21
        refine Gh_one (s1 := ⟨⟨35, [(0, .i (M : Int)), (2, .po H.length 0), (3, .po (H.length + 1) 0), (4, .i (k : Int)), (5, .own H2.length (j + 1) 0 (j + 1)), (6, .i (j : Int))]⟩, H5⟩) (by kernel_rfl) ?_
        refine Gh_any (P (j + 1)) p5 ((hPt _ _ _ p5).imp (fun h => tb_skip (tb_skip (tb_skip (tb_skip h)))) id) (fun H6 p6 => ?_)
        refine Gh_nil ?_
        refine Gh_one (s1 := ⟨⟨35, [(0, .i (M : Int)), (2, .po H.length 0), (3, .po (H.length + 1) 0), (4, .i (k : Int)), (5, .own H2.length (j + 1) 0 (j + 1)), (6, .i (j : Int))]⟩, H6⟩) (by kernel_rfl) ?_
        refine Gh_any (P (j + 1)) p6 ((hPt _ _ _ p6).imp (fun h => tb_skip (tb_skip (tb_skip (tb_skip h)))) id) (fun H7 p7 => ?_)
        exact Gh_nil ⟨H7, rfl, p7⟩
      refine W_skip ?_
      refine Gh_e ⟨⟨35, [(0, .i (M : Int)), (2, .po H.length 0), (3, .po (H.length + 1) 0), (4, .i (k : Int)), (5, .own H2.length j 0 j), (6, .i (j : Int))]⟩, H4⟩ ?_
      refine W_seq ?_
      refine W.mono (N := fun s' => ∃ H6, s' = ⟨⟨35, [(0, .i (M : Int)), (2, .po H.length 0), (3, .po (H.length + 1) 0), (4, .i (k : Int)), (5, .own H2.length (j + 1) 0 (j + 1)), (6, .i (j : Int))]⟩, H6⟩ ∧ P (j + 1) H6) (W_gh (W_block ?_)) (fun s' hs' => ?_) (fun _ _ h => h) (fun _ h => h)
      · refine W_seq ?_
        refine W_gh ?_
        refine W_reg ?_
        refine O_q 3 ?_
        refine O_nil ?_
        refine Gh_e ⟨⟨35, [(0, .i (M : Int)), (2, .po H.length 0), (3, .po (H.length + 1) 0), (4, .i (k : Int)), (5, .own H2.length j 0 j), (6, .i (j : Int)), (21, .bool ((k : Int) == (j : Int)))]⟩, H4⟩ ?_
        refine W_gh ?_
        refine W_cond (c := ((k : Int) == (j : Int))) (by kernel_rfl) (fun c5 => ?_) (fun c5 => ?_)
        · have c6 : k = j := by have : (k : Int) = (j : Int) := by simpa using c5
                                omega
          refine W_gh ?_
          refine W_reg ?_
          refine O_q 1 ?_
          refine O_bsl1 (v := .i 0) (by kernel_rfl) ?_
          refine O_app1 (m := j) (id := H2.length) (fl := .nil) (es := (rowL j (freeM k)).map cI_i64) (v := .i 0) (tid := H4.length) (get_app hP.2) (by simp [rowL]) get_last rfl (by omega) (by omega) rfl ?_
          have hp5 := happ 0 (by unfold freeM; rw [if_pos c6])
          generalize (H4 ++ [Obj.live .norm 1 [[.i 0]]]).set H2.length (.live .nil 1 (((rowL j (freeM k)).map cI_i64) ++ [[.i 0]])) = H5 at hp5 ⊢
          refine O_q 1 ?_
          refine O_nil ?_
          refine Gh_one (s1 := ⟨⟨35, [(0, .i (M : Int)), (2, .po H.length 0), (3, .po (H.length + 1) 0), (4, .i (k : Int)), (5, .own H2.length (j + 1) 0 (j + 1)), (6, .i (j : Int)), (21, .bool ((k : Int) == (j : Int)))]⟩, H5⟩) (by kernel_rfl) ?_
          refine Gh_any (P (j + 1)) hp5 ((hPt _ _ _ hp5).imp (fun h => tb_skip (tb_skip (tb_skip (tb_skip h)))) id) (fun H6 p6 => ?_)
          refine Gh_nil ?_
          exact hafter H6 p6 _
        · have c6 : k ≠ j := by intro e; subst e; simp at c5
          refine W_gh ?_
          refine W_reg ?_
          refine O_q 1 ?_
          refine O_bsl1 (v := .i (-1099511627776)) (by kernel_rfl) ?_
          refine O_app1 (m := j) (id := H2.length) (fl := .nil) (es := (rowL j (freeM k)).map cI_i64) (v := .i (-1099511627776)) (tid := H4.length) (get_app hP.2) (by simp [rowL]) get_last rfl (by omega) (by omega) rfl ?_
          have hp5 := happ (-1099511627776) (by unfold freeM; rw [if_neg c6])
          generalize (H4 ++ [Obj.live .norm 1 [[.i (-1099511627776)]]]).set H2.length (.live .nil 1 (((rowL j (freeM k)).map cI_i64) ++ [[.i (-1099511627776)]])) = H5 at hp5 ⊢
          refine O_q 1 ?_
          refine O_nil ?_
          refine Gh_one (s1 := ⟨⟨35, [(0, .i (M : Int)), (2, .po H.length 0), (3, .po (H.length + 1) 0), (4, .i (k : Int)), (5, .own H2.length (j + 1) 0 (j + 1)), (6, .i (j : Int)), (21, .bool ((k : Int) == (j : Int)))]⟩, H5⟩) (by kernel_rfl) ?_
          refine Gh_any (P (j + 1)) hp5 ((hPt _ _ _ hp5).imp (fun h => tb_skip (tb_skip (tb_skip (tb_skip h)))) id) (fun H6 p6 => ?_)
          refine Gh_nil ?_
          exact hafter H6 p6 _
      · obtain ⟨H6, rfl, p6⟩ := hs'
        refine W_gh ?_
        refine W_reg ?_
        refine O_q 3 ?_
        refine O_nil ?_
        refine Gh_e ⟨⟨35, [(0, .i (M : Int)), (2, .po H.length 0), (3, .po (H.length + 1) 0), (4, .i (k : Int)), (5, .own H2.length (j + 1) 0 (j + 1)), (6, .i (addI .i64 (j : Int) 1))]⟩, H6⟩ ?_
        rw [addI_nat (k := j) (by omega)]
        refine Gh_one (s1 := ⟨⟨35, [(0, .i (M : Int)), (2, .po H.length 0), (3, .po (H.length + 1) 0), (4, .i (k : Int)), (5, .own H2.length (j + 1) 0 (j + 1)), (6, .i ((j + 1 : Nat) : Int))]⟩, H6⟩) (by kernel_rfl) ?_
        refine Gh_any (P (j + 1)) p6 ((hPt _ _ _ p6).imp (fun h => tb_skip (tb_skip (tb_skip (tb_skip h)))) id) (fun H7 p7 => ?_)
        refine Gh_nil ?_
        refine ⟨⟨j + 1, H7, rfl, by omega, p7⟩, ?_⟩
        show M + 1 - (((j + 1 : Nat) : Int)).toNat < M + 1 - ((j : Int)).toNat
        omega
    · have c4 := of_decide_eq_false c
      obtain rfl : j = M + 1 := by omega
      refine W_exit ?_
      refine X_hit ?_
      refine Gh_one (s1 := ⟨⟨35, [(0, .i (M : Int)), (2, .po H.length 0), (3, .po (H.length + 1) 0), (4, .i (k : Int)), (5, .own H2.length (M + 1) 0 (M + 1))]⟩, H4⟩) (by kernel_rfl) ?_
      refine Gh_any (P (M + 1)) hP ((hPt _ _ _ hP).imp (fun h => tb_skip (tb_skip (tb_skip (tb_skip h)))) id) (fun H5 p5 => ?_)
      refine Gh_nil ?_
      obtain ⟨q1, q2⟩ := p5
      have hl5 := get_lt q2
      have x1 : H5[H.length + 1]? = some (.lv 2 [.i (M : Int), .own (H.length + 2) k 0 k]) := (q1 _ (get_lt h2)).trans h2
      have x2 : H5[H.length + 2]? = some (.live .nil 1 ((List.range k).map fun i => [.own (rid i) (M + 1) 0 (M + 1)])) := (q1 _ (get_lt h5)).trans h5
      have x0 : H5[H.length]? = some (.lv 2 [.i 0, .ro []]) := (q1 _ (get_lt h1)).trans h1
      refine W_gh ?_
      refine W_reg ?_
      refine O_q 1 ?_
      refine O_ldb (o := 1) x1 (by kernel_rfl) rfl ?_
      refine O_q 1 ?_
      refine O_bsl1 (v := .own H2.length (M + 1) 0 (M + 1)) (by kernel_rfl) ?_
      refine O_app1 (m := k) (id := H.length + 2) (fl := .nil) (es := (List.range k).map fun i => [.own (rid i) (M + 1) 0 (M + 1)]) (v := .own H2.length (M + 1) 0 (M + 1)) (tid := H5.length) (get_app x2) (by simp) get_last rfl (by omega) (by omega) rfl ?_
      have hrows : ((List.range k).map fun i => [AV.own (rid i) (M + 1) 0 (M + 1)]) ++ [[.own H2.length (M + 1) 0 (M + 1)]] = (List.range (k + 1)).map fun i => [.own (upd rid k H2.length i) (M + 1) 0 (M + 1)] := by
        rw [List.range_succ, List.map_append]
        congr 1
        · refine List.map_congr_left (fun i hi => ?_)
          rw [upd_ne (by have := List.mem_range.1 hi; omega)]
        · simp [upd_eq]
      rw [hrows]
      refine O_q 1 ?_
      refine O_st (o := 1) (sz := 2) (cs := [.i (M : Int), .own (H.length + 2) k 0 k]) (id := H.length + 1) [.own (H.length + 2) (k + 1) 0 (k + 1)] [.i (M : Int), .own (H.length + 2) (k + 1) 0 (k + 1)] (get_ne (get_app x1) (by omega)) ?_
      refine O_nil ?_
      have hfin : J (k + 1) (((H5 ++ [Obj.live .norm 1 [[.own H2.length (M + 1) 0 (M + 1)]]]).set (H.length + 2) (.live .nil 1 ((List.range (k + 1)).map fun i => [.own (upd rid k H2.length i) (M + 1) 0 (M + 1)]))).set (H.length + 1) (.lv 2 [.i (M : Int), .own (H.length + 2) (k + 1) 0 (k + 1)])) := by
        refine ⟨get_ne (get_ne (get_app x0) (by omega)) (by omega), sq_self (get_ne (get_app x1) (by omega)), fun a ha => ?_, fun h => by omega, upd rid k H2.length, get_ne (sq_self (get_app x2)) (by omega), fun i hi => ?_, fun i hi hi1 => ?_, fun _ => ?_, fun i j hi hj e => ?_⟩
        · rw [List.getElem?_set_ne (by omega), List.getElem?_set_ne (by omega), List.getElem?_append_left (by omega), q1 a (by omega)]; exact h3 a ha
        · by_cases e : i = k
          · subst e
            rw [upd_eq]
            exact ⟨get_ne (get_ne (get_app q2) (by omega)) (by omega), hR.1⟩
          · rw [upd_ne e]
            obtain ⟨y1, y2⟩ := h6 i (by omega)
            exact ⟨get_ne (get_ne (get_app ((q1 _ (get_lt y1)).trans y1)) (by omega)) (by omega), y2⟩
        · by_cases e : i = k
          · subst e
            rw [upd_eq]
            exact hR.2.2 hi1
          · rw [upd_ne e]; exact h7 i (by omega) hi1
        · by_cases e : 0 = k
          · rw [← e, upd_eq]; exact hR.2.1 e.symm
          · rw [upd_ne e]; exact h8 (by omega)
        · by_cases ei : i = k
          · by_cases ej : j = k
            · omega
            · rw [ei, upd_eq, upd_ne ej] at e
              have := get_lt (h6 j (by omega)).1; omega
          · by_cases ej : j = k
            · rw [ej, upd_eq, upd_ne ei] at e
              have := get_lt (h6 i (by omega)).1; omega
            · rw [upd_ne ei, upd_ne ej] at e
              exact h9 i j (by omega) (by omega) e
      refine Gh_one (s1 := ⟨⟨35, [(0, .i (M : Int)), (2, .po H.length 0), (3, .po (H.length + 1) 0), (4, .i (k : Int))]⟩, ((H5 ++ [Obj.live .norm 1 [[.own H2.length (M + 1) 0 (M + 1)]]]).set (H.length + 2) (.live .nil 1 ((List.range (k + 1)).map fun i => [.own (upd rid k H2.length i) (M + 1) 0 (M + 1)]))).set (H.length + 1) (.lv 2 [.i (M : Int), .own (H.length + 2) (k + 1) 0 (k + 1)])⟩) (by kernel_rfl) ?_
      generalize ((H5 ++ [Obj.live .norm 1 [[.own H2.length (M + 1) 0 (M + 1)]]]).set (H.length + 2) (.live .nil 1 ((List.range (k + 1)).map fun i => [.own (upd rid k H2.length i) (M + 1) 0 (M + 1)]))).set (H.length + 1) (.lv 2 [.i (M : Int), .own (H.length + 2) (k + 1) 0 (k + 1)]) = H6 at hfin ⊢
      refine Gh_tr (J (k + 1)) hfin (hJ4 _ _ (by omega) hfin) (fun H7 j7 => ?_)
      refine Gh_nil ?_
      refine Gh_one (s1 := ⟨⟨35, [(0, .i (M : Int)), (2, .po H.length 0), (3, .po (H.length + 1) 0), (4, .i (k : Int))]⟩, H7⟩) (by kernel_rfl) ?_
      refine Gh_noT (hJ3 _ _ (by omega) j7) ?_
      refine Gh_nil ?_
      refine W_gh ?_
      refine W_reg ?_
      refine O_q 3 ?_
      refine O_nil ?_
      refine Gh_e ⟨⟨35, [(0, .i (M : Int)), (2, .po H.length 0), (3, .po (H.length + 1) 0), (4, .i (addI .i64 (k : Int) 1))]⟩, H7⟩ ?_
      rw [addI_nat (k := k) (by omega)]
      refine Gh_one (s1 := ⟨⟨35, [(0, .i (M : Int)), (2, .po H.length 0), (3, .po (H.length + 1) 0), (4, .i ((k + 1 : Nat) : Int))]⟩, H7⟩) (by kernel_rfl) ?_
      refine Gh_noT (hJ3 _ _ (by omega) j7) ?_
      refine Gh_nil ?_
      refine ⟨⟨k + 1, H7, rfl, by omega, j7⟩, ?_⟩
      show M + 1 - (((k + 1 : Nat) : Int)).toNat < M + 1 - ((k : Int)).toNat
      omega
  · have c3 := of_decide_eq_false c
    obtain rfl : k = M + 1 := by omega
    refine W_exit ?_
    refine X_hit ?_
    refine Gh_one (s1 := ⟨⟨35, [(2, .po H.length 0), (3, .po (H.length + 1) 0)]⟩, H2⟩) (by kernel_rfl) ?_
    refine Gh_noT (hJ3 _ _ (by omega) hJ) ?_
    refine Gh_nil ?_
    obtain ⟨h1, h2, h3, h4, rid, h5, h6, h7, h8, h9⟩ := hJ
    refine W_seq ?_
    refine W_gh ?_
    refine W_reg ?_
    refine O_lda h2 (by kernel_rfl) rfl ?_
    refine O_st (o := 0) (sz := 2) (cs := [.i 0, .ro []]) (id := H.length) [.i (M : Int), .own (H.length + 2) (M + 1) 0 (M + 1)] [.i (M : Int), .own (H.length + 2) (M + 1) 0 (M + 1)] h1 ?_
    refine O_nil ?_
    refine Gh_e ⟨⟨35, [(2, .po H.length 0)]⟩, H2.set H.length (.lv 2 [.i (M : Int), .own (H.length + 2) (M + 1) 0 (M + 1)])⟩ ?_
    refine W_ret ?_
    refine ⟨[.agg [.i (M : Int), .own (H.length + 2) (M + 1) 0 (M + 1)]], res_box rfl (sq_self h1) rfl rfl, hk (H.length + 2) rid freeM _ ?_ (h3.set (Nat.le_refl _))⟩
    exact ⟨get_ne h5 (by omega), fun i hi => get_ne (h6 i hi).1 (by have := (h6 i hi).2; omega), by omega, fun i hi => by have := (h6 i hi).2; omega, h9, fun i hi => by have := (h6 i hi).2; omega, rfl, rfl⟩
end G11

namespace G11
open Go hiding Obj mark
open Go.Pl Go.Am Go.Am.As
set_option linter.unusedVariables false

theorem p26 (a0 : SBounds) (a1 : Int) (r : SBounds × Int) (h : m26 a0 a1 = some r) : Pt E0 hp 26 [.agg (cSBounds a0), .i a1] (.tup [.agg [.i r.1.N, .ro (r.1.Most.map (cL cI_i64))], .i r.2]) := by
  obtain ⟨c, e28, _, hR⟩ := check_eq0 a0
  unfold m26 at h
  rw [e28] at h
  simp only [Option.bind_some] at h
  have h6 : c = 0 → 1 ≤ a1 → a1 ≤ a0.N → ¬ a0.N > 6 := by
    intro hc h1 h2 h6
    subst hc
    rw [show ((0 : Int) != 0) = false from rfl, cond_false, show (decide (a1 < 1) || decide (a1 > a0.N)) = false by simp; omega, cond_false, decide_eq_true h6, cond_true] at h
    cases h
  obtain ⟨e, he⟩ : ∃ e : Int, e = (bif (c != 0) then c else bif (decide (a1 < 1) || decide (a1 > a0.N)) then 2 else bif !possL a0.Most then 16 else 0) := ⟨_, rfl⟩
  have h58 := p58 e28 hR h6 he
  refine Pt_W fn26 rfl (by decide) ?_
  refine W_seq ?_
  refine W_gh ?_
  refine W_reg ?_
  refine O_p 3 ?_
  refine O_nil ?_
  refine Gh_e ⟨⟨78, [(1, .i a1), (2, .po 0 0), (4, .po 1 0)]⟩, [.lv 2 (cSBounds a0), .lv 2 [.i 0, .ro []]]⟩ ?_
  refine W_seq ?_
  refine W_seq ?_
  refine W_gh ?_
  refine W_reg ?_
  refine O_p 2 ?_
  refine O_pt (xs := [.agg (cSBounds a0), .i a1]) (by kernel_rfl) (bels_cons (okSBounds.bel a0) rfl) rfl h58 ?_
  refine O_p 1 ?_
  refine O_nil ?_
  refine Gh_e ⟨⟨78, [(1, .i a1), (2, .po 0 0), (4, .po 1 0), (6, .i e)]⟩, [.lv 2 (cSBounds a0), .lv 2 [.i 0, .ro []]]⟩ ?_
  refine W_seq ?_
  refine W_gh ?_
  refine W_reg ?_
  refine O_p 2 ?_
  refine O_nil ?_
  refine Gh_e ⟨⟨78, [(1, .i a1), (2, .po 0 0), (4, .po 1 0), (6, .i e), (17, .bool (e != 0))]⟩, [.lv 2 (cSBounds a0), .lv 2 [.i 0, .ro []]]⟩ ?_
  refine W_gh ?_
  refine W_cond (c := (e != 0)) (by kernel_rfl) (fun hc => ?_) (fun hc => ?_)
  · have hr : r = (⟨0, []⟩, e) := by
      cases hcc : (c != 0)
      · rw [hcc, cond_false] at h he
        cases ho : (decide (a1 < 1) || decide (a1 > a0.N))
        · rw [ho, cond_false] at h he
          cases h6' : decide (a0.N > 6)
          · rw [h6', cond_false] at h
            injection h with h
            cases hp : possL a0.Most
            · rw [hp] at h he
              simp only [Bool.not_false, cond_true] at h he
              rw [he]; exact h.symm
            · rw [hp] at he
              simp only [Bool.not_true, cond_false] at he
              rw [he] at hc; cases hc
          · rw [h6', cond_true] at h; cases h
        · rw [ho, cond_true] at h he
          injection h with h
          rw [he]; exact h.symm
      · rw [hcc, cond_true] at h he
        injection h with h
        rw [he]; exact h.symm
    subst hr
    refine W_seq ?_
    refine W_gh ?_
    refine W_reg ?_
    refine O_p 4 ?_
    refine O_nil ?_
    refine Gh_e ⟨⟨78, [(1, .i a1), (2, .po 0 0), (4, .po 1 0), (5, .i e), (17, .bool (e != 0))]⟩, [.lv 2 (cSBounds a0), .lv 2 [.i 0, .ro []]]⟩ ?_
    refine W_ret ?_
    exact Fin_free (l := [.agg [.i 0, .ro []], .i e]) (by kernel_rfl) (by kernel_rfl) rfl
  -- no error
  have he0 : e = 0 := by simpa using hc
  subst he0
  have hcz : c = 0 := by
    rcases Int.decEq c 0 with g | g
    · rw [show (c != 0) = true by simpa using g, cond_true] at he; exact he.symm
    · exact g
  subst hcz
  simp only [show ((0 : Int) != 0) = false from rfl, cond_false] at h he
  cases ho : (decide (a1 < 1) || decide (a1 > a0.N))
  case true => rw [ho, cond_true] at he; cases he
  rw [ho, cond_false] at h he
  cases hps : possL a0.Most
  case false => rw [hps] at he; cases he
  rw [hps] at h
  have hrg : 1 ≤ a1 ∧ a1 ≤ a0.N := by
    simp only [Bool.or_eq_false_iff, decide_eq_false_iff_not] at ho
    omega
  have hN6 := h6 rfl hrg.1 hrg.2
  rw [decide_eq_false hN6, cond_false] at h
  simp only [Bool.not_true, cond_false] at h
  injection h with h
  obtain ⟨N, hN, hrt⟩ := (hR rfl).rt hN6
  have hN7 := hrt.hN
  obtain ⟨k, rfl⟩ : ∃ k : Nat, a1 = (k : Int) := ⟨a1.toNat, by omega⟩
  have hk1 : 1 ≤ k := by omega
  have hk2 : k ≤ N := by omega
  have hcs : cSBounds a0 = [.i (N : Int), .ro (a0.Most.map (cL cI_i64))] := by rw [cSB, hN]
  rw [Int.toNat_natCast, hrt.sq.1] at h
  refine W_skip ?_
  refine Gh_e ⟨⟨78, [(1, .i (k : Int)), (2, .po 0 0), (4, .po 1 0)]⟩, [.lv 2 (cSBounds a0), .lv 2 [.i 0, .ro []]]⟩ ?_
  refine W_seq ?_
  refine W_gh ?_
  refine W_reg ?_
  refine O_p 1 ?_
  refine O_wc (xs := [.agg [.i (N : Int), .ro (a0.Most.map (cL cI_i64))]]) (by kernel_rfl) (by rw [← hN]; kernel_rfl) ?_
  refine paths_eq hrt (fun b rid m H1 hnc hm hf => ?_)
  replace hf : Fr 2 [.lv 2 (cSBounds a0), .lv 2 [.i 0, .ro []]] H1 := hf
  replace hnc : NC 2 H1 b (N + 1) m rid .nil .norm := hnc
  have hA4 : 4 ≤ H1.length := by
    have x1 := get_lt hnc.top
    have x2 := hnc.lb
    have x3 := get_lt (hnc.row 0 (by omega))
    have x4 := hnc.lr 0 (by omega)
    have x5 := hnc.ne 0 (by omega)
    omega
  refine O_alloc (sz := 2) H1.length (H1 ++ [.lv 2 [.i 0, .nils]]) rfl ?_
  refine O_st (o := 0) (sz := 2) (cs := [.i 0, .nils]) (id := H1.length) [.i (N : Int), .own b (N + 1) 0 (N + 1)] [.i (N : Int), .own b (N + 1) 0 (N + 1)] get_last ?_
  refine O_nil ?_
  rw [show (H1 ++ [Obj.lv 2 [.i 0, .nils]]).set H1.length (.lv 2 [.i (N : Int), .own b (N + 1) 0 (N + 1)]) = H1 ++ [.lv 2 [.i (N : Int), .own b (N + 1) 0 (N + 1)]] by simp]
  refine Gh_one (s1 := ⟨⟨78, [(1, .i (k : Int)), (2, .po 0 0), (4, .po 1 0), (7, .po H1.length 0)]⟩, H1 ++ [.lv 2 [.i (N : Int), .own b (N + 1) 0 (N + 1)]]⟩) (by kernel_rfl) ?_
  refine Gh_wkp (id := H1.length) (cs' := [.i (N : Int), .own b (N + 1) 0 (N + 1)]) get_last rfl rfl rfl ?_
  refine Gh_nil ?_
  show W E0 hp _ _ _ _ _ ⟨_, (H1 ++ [Obj.lv 2 [.i (N : Int), .own b (N + 1) 0 (N + 1)]]).set H1.length (.lv 2 [.i (N : Int), .own b (N + 1) 0 (N + 1)])⟩
  rw [show (H1 ++ [Obj.lv 2 [.i (N : Int), .own b (N + 1) 0 (N + 1)]]).set H1.length (.lv 2 [.i (N : Int), .own b (N + 1) 0 (N + 1)]) = H1 ++ [.lv 2 [.i (N : Int), .own b (N + 1) 0 (N + 1)]] by simp]
  have t0 : (H1 ++ [Obj.lv 2 [.i (N : Int), .own b (N + 1) 0 (N + 1)]])[0]? = some (.lv 2 [.i (N : Int), .ro (a0.Most.map (cL cI_i64))]) := get_app ((hf 0 (by omega)).trans (by rw [hcs]; rfl))
  have t1 : (H1 ++ [Obj.lv 2 [.i (N : Int), .own b (N + 1) 0 (N + 1)]])[1]? = some (.lv 2 [.i 0, .ro []]) := get_app (hf 1 (by omega))
  have t2 : (H1 ++ [Obj.lv 2 [.i (N : Int), .own b (N + 1) 0 (N + 1)]])[H1.length]? = some (.lv 2 [.i (N : Int), .own b (N + 1) 0 (N + 1)]) := get_last
  have t3 : NC 2 (H1 ++ [Obj.lv 2 [.i (N : Int), .own b (N + 1) 0 (N + 1)]]) b (N + 1) m rid .nil .norm := hnc.ext Fr.app
  generalize H1 ++ [Obj.lv 2 [.i (N : Int), .own b (N + 1) 0 (N + 1)]] = H2 at t0 t1 t2 t3 ⊢
  generalize H1.length = A at t2 hA4 ⊢
  have hsh : shiftL (pathL a0.Most) (N + 1) k = matL N fun j l => ent (pathL a0.Most) (ord k j) (ord k l) := rfl
  rw [hsh] at h
  have hAl := get_lt t2
  refine W_seq ?_
  refine W_gh ?_
  refine W_reg ?_
  refine O_q 1 ?_
  refine O_bsl1 (v := .i (k : Int)) (by kernel_rfl) ?_
  have hB5 : 5 ≤ H2.length := by omega
  have u3 : Fr H2.length H2 (H2 ++ [Obj.live .norm 1 [[.i (k : Int)]]]) := Fr.app
  have u1 : (H2 ++ [Obj.live .norm 1 [[.i (k : Int)]]])[H2.length]? = some (.live .norm 1 ((rowL 1 fun x => (ord k x : Int)).map cI_i64)) := get_last
  generalize H2 ++ [Obj.live .norm 1 [[.i (k : Int)]]] = H3 at u1 u3 ⊢
  generalize hBe : H2.length = B at u1 u3 hB5 ⊢
  refine O_q 1 ?_
  refine O_nil ?_
  refine Gh_one (s1 := ⟨⟨78, [(1, .i (k : Int)), (2, .po 0 0), (4, .po 1 0), (7, .po A 0), (8, .own B 1 0 1)]⟩, H3⟩) (by kernel_rfl) ?_
  refine Gh_keep (tb_skip (tb_skip (tb_skip (tb_skip (tb_bad (own_bad (by omega))))))) ?_
  refine Gh_nil ?_
  have v0 : ∀ {H' : List Obj}, Fr B H2 H' → H'[0]? = some (.lv 2 [.i (N : Int), .ro (a0.Most.map (cL cI_i64))]) := fun hf' => (hf' 0 (by omega)).trans t0
  refine W_seq ?_
  refine W_seq ?_
  refine W_reg ?_
  refine O_q 1 ?_
  refine O_nil ?_
  refine W_gh (W_block ?_)
  refine W_lp (fun s' => ∃ (t : Nat) (H4 : List Obj), s' = ⟨⟨78, [(1, .i (k : Int)), (2, .po 0 0), (4, .po 1 0), (7, .po A 0), (8, .own B (ordN k t) 0 (ordN k t)), (9, .i ((t + 1 : Nat) : Int))]⟩, H4⟩ ∧ t ≤ N ∧ Fr B H2 H4 ∧ H4[B]? = some (.live .norm 1 ((rowL (ordN k t) fun x => (ord k x : Int)).map cI_i64)))
    (fun s' => match s'.tmps.get 9 with | .int _ t => N + 1 - t.toNat | _ => 0) ⟨0, H3, by rw [show ordN k 0 = 1 by unfold ordN; rw [if_neg (by omega)]]; rfl, by omega, u3, by rw [show ordN k 0 = 1 by unfold ordN; rw [if_neg (by omega)]]; exact u1⟩ ?_
  rintro s' ⟨t, H4, rfl, ht, i1, i3⟩
  refine W_gh ?_
  refine W_seq ?_
  refine W_seq ?_
  refine W_gh ?_
  refine W_reg ?_
  refine O_q 2 ?_
  refine O_ldb (o := 0) (v0 i1) (by kernel_rfl) rfl ?_
  refine O_q 1 ?_
  refine O_nil ?_
  refine Gh_e ⟨⟨78, [(1, .i (k : Int)), (2, .po 0 0), (4, .po 1 0), (7, .po A 0), (8, .own B (ordN k t) 0 (ordN k t)), (9, .i ((t + 1 : Nat) : Int)), (27, .bool (decide (((t + 1 : Nat) : Int) ≤ (N : Int))))]⟩, H4⟩ ?_
  refine W_gh ?_
  refine W_cond (c := decide (((t + 1 : Nat) : Int) ≤ (N : Int))) (by kernel_rfl) (fun c => ?_) (fun c => ?_)
  · have c3 : t < N := by have := of_decide_eq_true c; omega
    have kp : ∀ (L : Nat) (r : List (Nat × AV)), T.belsL (0 + 5) ((1, .i (k : Int)) :: (2, .po 0 0) :: (4, .po 1 0) :: (7, .po A 0) :: (8, .own B L 0 L) :: r) = false := fun L r => tb_skip (tb_skip (tb_skip (tb_skip (tb_bad (own_bad (by omega))))))
    refine W_skip ?_
    refine Gh_e ⟨⟨78, [(1, .i (k : Int)), (2, .po 0 0), (4, .po 1 0), (7, .po A 0), (8, .own B (ordN k t) 0 (ordN k t)), (9, .i ((t + 1 : Nat) : Int))]⟩, H4⟩ ?_
    refine W_seq ?_
    refine W.mono (N := fun s' => ∃ H5, s' = ⟨⟨78, [(1, .i (k : Int)), (2, .po 0 0), (4, .po 1 0), (7, .po A 0), (8, .own B (ordN k (t + 1)) 0 (ordN k (t + 1))), (9, .i ((t + 1 : Nat) : Int))]⟩, H5⟩ ∧ Fr B H2 H5 ∧ H5[B]? = some (.live .norm 1 ((rowL (ordN k (t + 1)) fun x => (ord k x : Int)).map cI_i64))) (W_gh (W_block ?_)) (fun s' hs' => ?_) (fun _ _ h => h) (fun _ h => h)
    · refine W_seq ?_
      refine W_gh ?_
      refine W_reg ?_
      refine O_q 3 ?_
      refine O_nil ?_
      refine Gh_e ⟨⟨78, [(1, .i (k : Int)), (2, .po 0 0), (4, .po 1 0), (7, .po A 0), (8, .own B (ordN k t) 0 (ordN k t)), (9, .i ((t + 1 : Nat) : Int)), (32, .bool (((t + 1 : Nat) : Int) != (k : Int)))]⟩, H4⟩ ?_
      refine W_gh ?_
      refine W_cond (c := (((t + 1 : Nat) : Int) != (k : Int))) (by kernel_rfl) (fun c4 => ?_) (fun c4 => ?_)
      · have c5 : t + 1 ≠ k := by intro e; rw [e] at c4; simp at c4
        have eL : ordN k (t + 1) = ordN k t + 1 := by unfold ordN; split <;> split <;> omega
        have eo : ord k (ordN k t) = t + 1 := by unfold ord ordN; split <;> split <;> (try split) <;> omega
        have hLs : ordN k t ≤ 8 := by unfold ordN; split <;> omega
        refine W_gh ?_
        refine W_reg ?_
        refine O_q 2 ?_
        refine O_bsl1 (v := .i ((t + 1 : Nat) : Int)) (by kernel_rfl) ?_
        have l1 : (H4 ++ [Obj.live .norm 1 [[.i ((t + 1 : Nat) : Int)]]])[B]? = some (.live .norm 1 ((rowL (ordN k t) fun x => (ord k x : Int)).map cI_i64)) := get_app i3
        refine O_app1 (m := ordN k t) (id := B) (v := .i ((t + 1 : Nat) : Int)) (tid := H4.length) l1 (by simp [rowL]) get_last rfl (by omega) (by omega) rfl ?_
        have ea : ((rowL (ordN k t) fun x => (ord k x : Int)).map cI_i64) ++ [[.i ((t + 1 : Nat) : Int)]] = (rowL (ordN k t + 1) fun x => (ord k x : Int)).map cI_i64 := by
          unfold rowL; rw [List.range_succ, List.map_append, List.map_append]
          simp [cI_i64, eo]
        rw [ea]
        have k2 : ((H4 ++ [Obj.live .norm 1 [[.i ((t + 1 : Nat) : Int)]]]).set B (.live .norm 1 ((rowL (ordN k t + 1) fun x => (ord k x : Int)).map cI_i64)))[B]? = some (.live .norm 1 ((rowL (ordN k (t + 1)) fun x => (ord k x : Int)).map cI_i64)) := by rw [eL]; exact sq_self l1
        have k3 : Fr B H2 ((H4 ++ [Obj.live .norm 1 [[.i ((t + 1 : Nat) : Int)]]]).set B (.live .norm 1 ((rowL (ordN k t + 1) fun x => (ord k x : Int)).map cI_i64))) := (i1.trans Fr.app (by have := get_lt i3; omega)).set (Nat.le_refl _)
        generalize (H4 ++ [Obj.live .norm 1 [[.i ((t + 1 : Nat) : Int)]]]).set B (.live .norm 1 ((rowL (ordN k t + 1) fun x => (ord k x : Int)).map cI_i64)) = H5 at k2 k3 ⊢
        rw [← eL]
        refine O_q 1 ?_
        refine O_nil ?_
        refine Gh_one (s1 := ⟨⟨78, [(1, .i (k : Int)), (2, .po 0 0), (4, .po 1 0), (7, .po A 0), (8, .own B (ordN k (t + 1)) 0 (ordN k (t + 1))), (9, .i ((t + 1 : Nat) : Int)), (32, .bool (((t + 1 : Nat) : Int) != (k : Int)))]⟩, H5⟩) (by kernel_rfl) ?_
        refine Gh_keep (kp _ _) ?_
        refine Gh_nil ?_
        refine Gh_one (s1 := ⟨⟨78, [(1, .i (k : Int)), (2, .po 0 0), (4, .po 1 0), (7, .po A 0), (8, .own B (ordN k (t + 1)) 0 (ordN k (t + 1))), (9, .i ((t + 1 : Nat) : Int))]⟩, H5⟩) (by kernel_rfl) ?_
        refine Gh_keep (kp _ _) ?_
        refine Gh_nil ?_
        refine Gh_one (s1 := ⟨⟨78, [(1, .i (k : Int)), (2, .po 0 0), (4, .po 1 0), (7, .po A 0), (8, .own B (ordN k (t + 1)) 0 (ordN k (t + 1))), (9, .i ((t + 1 : Nat) : Int))]⟩, H5⟩) (by kernel_rfl) ?_
        refine Gh_keep (kp _ _) ?_
        exact Gh_nil ⟨H5, rfl, k3, k2⟩
      · have c5 : t + 1 = k := by have : ((t + 1 : Nat) : Int) = (k : Int) := by simpa using c4
                                  omega
        have eL : ordN k (t + 1) = ordN k t := by unfold ordN; split <;> split <;> omega
        refine W_skip ?_
        refine Gh_one (s1 := ⟨⟨78, [(1, .i (k : Int)), (2, .po 0 0), (4, .po 1 0), (7, .po A 0), (8, .own B (ordN k t) 0 (ordN k t)), (9, .i ((t + 1 : Nat) : Int))]⟩, H4⟩) (by kernel_rfl) ?_
        refine Gh_keep (kp _ _) ?_
        refine Gh_nil ?_
        refine Gh_one (s1 := ⟨⟨78, [(1, .i (k : Int)), (2, .po 0 0), (4, .po 1 0), (7, .po A 0), (8, .own B (ordN k t) 0 (ordN k t)), (9, .i ((t + 1 : Nat) : Int))]⟩, H4⟩) (by kernel_rfl) ?_
        refine Gh_keep (kp _ _) ?_
        exact Gh_nil ⟨H4, by rw [eL], i1, by rw [eL]; exact i3⟩
    · obtain ⟨H5, rfl, k3, k2⟩ := hs'
      refine W_gh ?_
      refine W_reg ?_
      refine O_q 3 ?_
      refine O_nil ?_
      refine Gh_e ⟨⟨78, [(1, .i (k : Int)), (2, .po 0 0), (4, .po 1 0), (7, .po A 0), (8, .own B (ordN k (t + 1)) 0 (ordN k (t + 1))), (9, .i (addI .i64 ((t + 1 : Nat) : Int) 1))]⟩, H5⟩ ?_
      rw [addI_nat (k := t + 1) (by omega)]
      refine Gh_one (s1 := ⟨⟨78, [(1, .i (k : Int)), (2, .po 0 0), (4, .po 1 0), (7, .po A 0), (8, .own B (ordN k (t + 1)) 0 (ordN k (t + 1))), (9, .i ((t + 1 + 1 : Nat) : Int))]⟩, H5⟩) (by kernel_rfl) ?_
      refine Gh_keep (kp _ _) ?_
      refine Gh_nil ?_
      refine ⟨⟨t + 1, H5, rfl, by omega, k3, k2⟩, ?_⟩
      show N + 1 - (((t + 1 + 1 : Nat) : Int)).toNat < N + 1 - (((t + 1 : Nat) : Int)).toNat
      omega
  · have c3 := of_decide_eq_false c
    obtain rfl : t = N := by omega
    have eL : ordN k t = t := by unfold ordN; rw [if_pos hk2]
    rw [eL] at i3 ⊢
    refine W_exit ?_
    refine X_hit ?_
    refine Gh_one (s1 := ⟨⟨78, [(2, .po 0 0), (4, .po 1 0), (7, .po A 0), (8, .own B t 0 t)]⟩, H4⟩) (by kernel_rfl) ?_
    refine Gh_keep (tb_skip (tb_skip (tb_skip (tb_bad (own_bad (by omega)))))) ?_
    refine Gh_nil ?_
    have w0 := v0 i1
    have w1 : H4[1]? = some (.lv 2 [.i 0, .ro []]) := (i1 1 (by omega)).trans t1
    have w2 : H4[A]? = some (.lv 2 [.i (t : Int), .own b (t + 1) 0 (t + 1)]) := (i1 A (by omega)).trans t2
    have w3 : MatV H4 (.own b (t + 1) 0 (t + 1)) (t + 1) m := t3.mat.ext (fun a ha => i1 a (by omega))
    have hl4 := get_lt i3
    obtain ⟨M, rfl⟩ : ∃ M, t = M + 1 := ⟨t - 1, by omega⟩
    refine W_seq ?_
    refine W_gh ?_
    refine W_reg ?_
    refine O_q 1 ?_
    refine O_ldb (o := 0) w0 (by kernel_rfl) rfl ?_
    refine O_q 1 ?_
    refine O_wc (xs := [.i (M : Int)]) (by kernel_rfl) (by rw [show (M : Int) = subI .i64 ((M + 1 : Nat) : Int) 1 by rw [subI_eq (by omega) (by omega)]; omega]; kernel_rfl) ?_
    refine free_eq (by omega) (fun bF ridF mF H5 g1 g3 => ?_)
    replace g1 : NC H4.length H5 bF (M + 1) mF ridF .nil .nil := g1
    replace g3 : Fr H4.length H4 H5 := g3
    have hl45 : H4.length ≤ H5.length := by have := get_lt g1.top; have := g1.lb; omega
    refine O_alloc (sz := 2) H5.length (H5 ++ [.lv 2 [.i 0, .nils]]) rfl ?_
    refine O_st (o := 0) (sz := 2) (cs := [.i 0, .nils]) (id := H5.length) [.i (M : Int), .own bF (M + 1) 0 (M + 1)] [.i (M : Int), .own bF (M + 1) 0 (M + 1)] get_last ?_
    refine O_nil ?_
    rw [show (H5 ++ [Obj.lv 2 [.i 0, .nils]]).set H5.length (.lv 2 [.i (M : Int), .own bF (M + 1) 0 (M + 1)]) = H5 ++ [.lv 2 [.i (M : Int), .own bF (M + 1) 0 (M + 1)]] by simp]
    refine Gh_one (s1 := ⟨⟨78, [(4, .po 1 0), (7, .po A 0), (8, .own B (M + 1) 0 (M + 1)), (10, .po H5.length 0)]⟩, H5 ++ [.lv 2 [.i (M : Int), .own bF (M + 1) 0 (M + 1)]]⟩) (by kernel_rfl) ?_
    refine Gh_wkp (id := H5.length) (cs' := [.i (M : Int), .own bF (M + 1) 0 (M + 1)]) get_last rfl rfl rfl ?_
    refine Gh_nil ?_
    show W E0 hp _ _ _ _ _ ⟨_, (H5 ++ [Obj.lv 2 [.i (M : Int), .own bF (M + 1) 0 (M + 1)]]).set H5.length (.lv 2 [.i (M : Int), .own bF (M + 1) 0 (M + 1)])⟩
    rw [show (H5 ++ [Obj.lv 2 [.i (M : Int), .own bF (M + 1) 0 (M + 1)]]).set H5.length (.lv 2 [.i (M : Int), .own bF (M + 1) 0 (M + 1)]) = H5 ++ [.lv 2 [.i (M : Int), .own bF (M + 1) 0 (M + 1)]] by simp]
    have hfa : Fr H4.length H4 (H5 ++ [Obj.lv 2 [.i (M : Int), .own bF (M + 1) 0 (M + 1)]]) := g3.trans Fr.app hl45
    have x7 : (H5 ++ [Obj.lv 2 [.i (M : Int), .own bF (M + 1) 0 (M + 1)]])[H5.length]? = some (.lv 2 [.i (M : Int), .own bF (M + 1) 0 (M + 1)]) := get_last
    have x8 : NC H4.length (H5 ++ [Obj.lv 2 [.i (M : Int), .own bF (M + 1) 0 (M + 1)]]) bF (M + 1) mF ridF .nil .nil := g1.ext Fr.app
    generalize H5 ++ [Obj.lv 2 [.i (M : Int), .own bF (M + 1) 0 (M + 1)]] = H6 at hfa x7 x8 ⊢
    generalize H5.length = C at x7 hl45 ⊢
    let P : Nat → Nat → List Obj → Prop := fun i j H' => Fr H4.length H4 H' ∧ H'[C]? = some (.lv 2 [.i (M : Int), .own bF (M + 1) 0 (M + 1)]) ∧
      ∃ m3, NC H4.length H' bF (M + 1) m3 ridF .nil .nil ∧ ∀ a b, a < M + 1 → b < M + 1 → (a < i ∨ a = i ∧ b < j) → m3 a b = ent (pathL a0.Most) (ord k a) (ord k b)
    refine W_seq ?_
    refine W_seq ?_
    refine W_reg ?_
    refine O_q 1 ?_
    refine O_nil ?_
    refine W_gh (W_block ?_)
    refine W_lp (fun s' => ∃ (i : Nat) (H' : List Obj), s' = ⟨⟨78, [(4, .po 1 0), (7, .po A 0), (8, .own B (M + 1) 0 (M + 1)), (10, .po C 0), (11, .i (i : Int))]⟩, H'⟩ ∧ i ≤ M + 1 ∧ P i 0 H') (fun s' => match s'.tmps.get 11 with | .int _ k => M + 1 - k.toNat | _ => 0) ⟨0, H6, rfl, by omega, hfa, x7, mF, x8, fun a b _ _ h => by omega⟩ ?_
    rintro s' ⟨i, H7, rfl, hi, hP⟩
    refine W_gh ?_
    refine W_seq ?_
    refine W_seq ?_
    refine W_gh ?_
    refine W_reg ?_
    refine O_q 4 ?_
    refine O_nil ?_
    refine Gh_e ⟨⟨78, [(4, .po 1 0), (7, .po A 0), (8, .own B (M + 1) 0 (M + 1)), (10, .po C 0), (11, .i (i : Int)), (44, .bool (decide ((i : Int) < ((M + 1 : Nat) : Int))))]⟩, H7⟩ ?_
    refine W_gh ?_
    refine W_cond (c := decide ((i : Int) < ((M + 1 : Nat) : Int))) (by kernel_rfl) (fun c => ?_) (fun c => ?_)
    · have c4 : i < M + 1 := by have := of_decide_eq_true c; omega
      refine W_skip ?_
      refine Gh_e ⟨⟨78, [(4, .po 1 0), (7, .po A 0), (8, .own B (M + 1) 0 (M + 1)), (10, .po C 0), (11, .i (i : Int))]⟩, H7⟩ ?_
      refine W_seq ?_
      refine W_gh ?_
      refine W_block ?_
      refine W_seq ?_
      refine W_reg ?_
      refine O_q 1 ?_
      refine O_nil ?_
      refine W_gh (W_block ?_)
      refine W_lp (fun s' => ∃ (j : Nat) (H' : List Obj), s' = ⟨⟨78, [(4, .po 1 0), (7, .po A 0), (8, .own B (M + 1) 0 (M + 1)), (10, .po C 0), (11, .i (i : Int)), (12, .i (j : Int))]⟩, H'⟩ ∧ j ≤ M + 1 ∧ P i j H') (fun s' => match s'.tmps.get 12 with | .int _ k => M + 1 - k.toNat | _ => 0) ⟨0, H7, rfl, by omega, hP⟩ ?_
      rintro s' ⟨j, H8, rfl, hj, hP⟩
      refine W_gh ?_
      refine W_seq ?_
      refine W_seq ?_
      refine W_gh ?_
      refine W_reg ?_
      refine O_q 4 ?_
      refine O_nil ?_
      refine Gh_e ⟨⟨78, [(4, .po 1 0), (7, .po A 0), (8, .own B (M + 1) 0 (M + 1)), (10, .po C 0), (11, .i (i : Int)), (12, .i (j : Int)), (50, .bool (decide ((j : Int) < ((M + 1 : Nat) : Int))))]⟩, H8⟩ ?_
      refine W_gh ?_
      refine W_cond (c := decide ((j : Int) < ((M + 1 : Nat) : Int))) (by kernel_rfl) (fun c => ?_) (fun c => ?_)
      · have c5 : j < M + 1 := by have := of_decide_eq_true c; omega
        obtain ⟨p1, p2, m3, p3, p4⟩ := hP
        have o1 := ord_lt hk2 c4
        have o2 := ord_lt hk2 c5
        have y1 : H8[A]? = some (.lv 2 [.i ((M + 1 : Nat) : Int), .own b (M + 1 + 1) 0 (M + 1 + 1)]) := (p1 _ (get_lt w2)).trans w2
        have y2 : H8[B]? = some (.live .norm 1 ((rowL (M + 1) fun x => (ord k x : Int)).map cI_i64)) := (p1 _ hl4).trans i3
        have y3 : MatV H8 (.own b (M + 1 + 1) 0 (M + 1 + 1)) (M + 1 + 1) m := w3.ext p1
        refine W_skip ?_
        refine Gh_e ⟨⟨78, [(4, .po 1 0), (7, .po A 0), (8, .own B (M + 1) 0 (M + 1)), (10, .po C 0), (11, .i (i : Int)), (12, .i (j : Int))]⟩, H8⟩ ?_
        refine W_seq ?_
        refine W_block ?_
        refine W_gh ?_
        refine W_draw ?_
        refine O_q 1 ?_
        refine O_ldb (o := 1) p2 (by kernel_rfl) rfl ?_
        refine O_q 1 ?_
        refine O_owld (n := M + 1) (i := i) (v := .own (ridF i) (M + 1) 0 (M + 1)) p3.top (by simp) (mr_get c4) ?_
        refine O_q 2 ?_
        refine O_ldb (o := 1) y1 (by kernel_rfl) rfl ?_
        refine O_q 2 ?_
        refine O_owld (n := M + 1) (i := i) y2 fo_len (fo_get c4) ?_
        refine O_row (v := .own b (M + 1 + 1) 0 (M + 1 + 1)) (i := ord k i) y3 o1 (fun pa ra hra => ?_)
        refine O_q 2 ?_
        refine O_owld (n := M + 1) (i := j) y2 fo_len (fo_get c5) ?_
        refine O_el (j := ord k j) hra o2 (fun pb => ?_)
        rw [hm _ _ o1 o2]
        refine O_owst (n := M + 1) (i := j) (v' := .i (ent (pathL a0.Most) (ord k i) (ord k j))) (p3.row i c4) fo_len (fo_get c5) rfl ?_
        refine O_nil ?_
        have n1 := p3.put (v := ent (pathL a0.Most) (ord k i) (ord k j)) c4 c5
        have z1 := p1.set (o := .live .nil 1 (((rowL (M + 1) (m3 i)).map cI_i64).set j [.i (ent (pathL a0.Most) (ord k i) (ord k j))])) (p3.lr i c4)
        have z2 := get_ne (o' := .live .nil 1 (((rowL (M + 1) (m3 i)).map cI_i64).set j [.i (ent (pathL a0.Most) (ord k i) (ord k j))])) p2 (ne_get p2 (p3.row i c4) (fun e => obj_ne1 e.symm))
        refine Gh_e ⟨⟨78, [(4, .po 1 0), (7, .po A 0), (8, .own B (M + 1) 0 (M + 1)), (10, .po C 0), (11, .i (i : Int)), (12, .i (j : Int))]⟩, H8.set (ridF i) (.live .nil 1 (((rowL (M + 1) (m3 i)).map cI_i64).set j [.i (ent (pathL a0.Most) (ord k i) (ord k j))]))⟩ ?_
        generalize H8.set (ridF i) (.live .nil 1 (((rowL (M + 1) (m3 i)).map cI_i64).set j [.i (ent (pathL a0.Most) (ord k i) (ord k j))])) = H9 at n1 z1 z2 ⊢
        refine W_gh ?_
        refine W_reg ?_
        refine O_q 3 ?_
        refine O_nil ?_
        refine Gh_e ⟨⟨78, [(4, .po 1 0), (7, .po A 0), (8, .own B (M + 1) 0 (M + 1)), (10, .po C 0), (11, .i (i : Int)), (12, .i (addI .i64 (j : Int) 1))]⟩, H9⟩ ?_
        rw [addI_nat (k := j) (by omega)]
        refine Gh_e ⟨⟨78, [(4, .po 1 0), (7, .po A 0), (8, .own B (M + 1) 0 (M + 1)), (10, .po C 0), (11, .i (i : Int)), (12, .i ((j + 1 : Nat) : Int))]⟩, H9⟩ ?_
        refine ⟨⟨j + 1, H9, rfl, by omega, z1, z2, _, n1, fun x y hx hy hlt => ?_⟩, ?_⟩
        · by_cases e : x = i ∧ y = j
          · obtain ⟨rfl, rfl⟩ := e; rw [up2_eq]
          · rw [up2_ne e]; exact p4 x y hx hy (by omega)
        · show M + 1 - (((j + 1 : Nat) : Int)).toNat < M + 1 - ((j : Int)).toNat
          omega
      · have c5 := of_decide_eq_false c
        obtain rfl : j = M + 1 := by omega
        refine W_exit ?_
        refine X_hit ?_
        refine Gh_e ⟨⟨78, [(4, .po 1 0), (7, .po A 0), (8, .own B (M + 1) 0 (M + 1)), (10, .po C 0), (11, .i (i : Int))]⟩, H8⟩ ?_
        refine Gh_e ⟨⟨78, [(4, .po 1 0), (7, .po A 0), (8, .own B (M + 1) 0 (M + 1)), (10, .po C 0), (11, .i (i : Int))]⟩, H8⟩ ?_
        refine W_gh ?_
        refine W_reg ?_
        refine O_q 3 ?_
        refine O_nil ?_
        refine Gh_e ⟨⟨78, [(4, .po 1 0), (7, .po A 0), (8, .own B (M + 1) 0 (M + 1)), (10, .po C 0), (11, .i (addI .i64 (i : Int) 1))]⟩, H8⟩ ?_
        rw [addI_nat (k := i) (by omega)]
        refine Gh_e ⟨⟨78, [(4, .po 1 0), (7, .po A 0), (8, .own B (M + 1) 0 (M + 1)), (10, .po C 0), (11, .i ((i + 1 : Nat) : Int))]⟩, H8⟩ ?_
        obtain ⟨p1, p2, m3, p3, p4⟩ := hP
        refine ⟨⟨i + 1, H8, rfl, by omega, p1, p2, m3, p3, fun x y hx hy hlt => p4 x y hx hy (by omega)⟩, ?_⟩
        show M + 1 - (((i + 1 : Nat) : Int)).toNat < M + 1 - ((i : Int)).toNat
        omega
    · have c4 := of_decide_eq_false c
      obtain rfl : i = M + 1 := by omega
      obtain ⟨p1, p2, m3, p3, p4⟩ := hP
      have hmat : (matL (M + 1) fun j l => ent (pathL a0.Most) (ord k j) (ord k l)) = matL (M + 1) m3 := matL_congr (fun x y hx hy => (p4 x y hx hy (by omega)).symm)
      rw [hmat] at h
      have y1 : H7[1]? = some (.lv 2 [.i 0, .ro []]) := (p1 _ (get_lt w1)).trans w1
      have hl7 := get_lt y1
      refine W_exit ?_
      refine X_hit ?_
      refine Gh_e ⟨⟨78, [(4, .po 1 0), (10, .po C 0)]⟩, H7⟩ ?_
      refine W_seq ?_
      refine W_gh ?_
      refine W_reg ?_
      refine O_lda p2 (by kernel_rfl) rfl ?_
      refine O_wc (xs := [.agg [.i (M : Int), .own bF (M + 1) 0 (M + 1)]]) (by kernel_rfl) (by kernel_rfl) ?_
      refine checked_eq (m := m3) (by omega) p3.mat (fun H8 hb hf8 => ?_) (fun H8 hb hf8 => ?_)
      · replace hf8 : Fr H7.length H7 H8 := hf8
        rw [show big (matL (M + 1) m3) = true from bigL.2 hb, cond_true] at h
        subst h
        have g2 : H8[1]? = some (.lv 2 [.i 0, .ro []]) := (hf8 1 hl7).trans y1
        refine O_q 2 ?_
        refine O_st (o := 0) (sz := 2) (cs := [.i 0, .ro []]) (id := 1) [.i 0, .ro []] [.i 0, .ro []] g2 ?_
        refine O_q 1 ?_
        refine O_nil ?_
        refine Gh_e ⟨⟨78, [(4, .po 1 0), (5, .i 11)]⟩, H8.set 1 (.lv 2 [.i 0, .ro []])⟩ ?_
        refine W_ret ?_
        exact Fin_free (l := [.agg [.i 0, .ro []], .i 11]) (res_box rfl (sq_self g2) rfl rfl) rfl rfl
      · replace hf8 : Fr H7.length H7 H8 := hf8
        have hbig : big (matL (M + 1) m3) = false := by
          cases e : big (matL (M + 1) m3) with
          | false => rfl
          | true => exact (hb (bigL.1 e)).elim
        rw [hbig, cond_false] at h
        subst h
        have g2 : H8[1]? = some (.lv 2 [.i 0, .ro []]) := (hf8 1 hl7).trans y1
        refine O_q 2 ?_
        refine O_st (o := 0) (sz := 2) (cs := [.i 0, .ro []]) (id := 1) [.i (M : Int), .own bF (M + 1) 0 (M + 1)] [.i (M : Int), .own bF (M + 1) 0 (M + 1)] g2 ?_
        refine O_q 1 ?_
        refine O_nil ?_
        refine Gh_e ⟨⟨78, [(4, .po 1 0), (5, .i 0)]⟩, H8.set 1 (.lv 2 [.i (M : Int), .own bF (M + 1) 0 (M + 1)])⟩ ?_
        refine W_ret ?_
        refine Fin_pk (l := [.agg [.i (M : Int), .own bF (M + 1) 0 (M + 1)], .i 0]) (res_box rfl (sq_self g2) rfl rfl) (pk_tup (mapO_cons (pk_agg (mapO_cons (y := .i (a0.N - 1)) ?_ (mapO_cons (y := .ro ((matL (M + 1) m3).map (cL cI_i64))) ?_ rfl))) rfl))
        · rw [hN, show ((M + 1 : Nat) : Int) - 1 = (M : Int) by omega]; exact pk_free rfl
        · exact ((p3.ext hf8).set (by omega)).pk
end G11
