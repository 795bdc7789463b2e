/- Operations that read, the rest: built values, comparisons, lengths, least and greatest. Conditions: the relation of the values and of the heap. -/
import Derived.Test.YteoiegapifoboaaAmK
namespace Go.Am
section
variable {P : Program} {c : Ctx}

theorem chunks_length (sz : Nat) : ∀ n cs, (chunks sz n cs).length = n
  | 0, _ => rfl
  | n + 1, cs => by simp [chunks, chunks_length sz n]

theorem chunks_get (sz : Nat) : ∀ (n : Nat) (cs : List AV) (i : Nat) (hi : i < (chunks sz n cs).length), (chunks sz n cs)[i] = (cs.drop (i * sz)).take sz
  | 0, _, i, hi => by simp [chunks] at hi
  | n + 1, cs, 0, _ => by simp [chunks]
  | n + 1, cs, i + 1, hi => by
    simp only [chunks, List.getElem_cons_succ]
    rw [chunks_get sz n]
    rw [List.drop_drop, Nat.add_mul, Nat.one_mul, Nat.add_comm sz]

/-- a pointer to readable cells, as a slice of n elements -/
theorem pro_chunks {cs : List AV} {a : Addr} (h : V c (.pro cs) (.pointer (some a))) (sz n cap : Nat) (hn : n * sz ≤ cs.length) (hcap : n ≤ cap) :
    V c (.ro (chunks sz n cs)) (.slice (some a) n cap) := by
  cases h with
  | pro _ _ vs h1 h3 h4 =>
    have hl := chunks_length sz n cs
    conv => rhs; rw [← hl]
    have hle : ∀ i, i < n → i * sz + sz ≤ n * sz := by
      intro i hi
      have := Nat.mul_le_mul_right sz (show i + 1 ≤ n by omega)
      rw [Nat.add_mul, Nat.one_mul] at this
      exact this
    have hlen : ∀ i (hi : i < (chunks sz n cs).length), (chunks sz n cs)[i].length = sz := by
      intro i hi
      rw [chunks_get]
      have := hle i (by rw [← hl]; exact hi)
      simp; omega
    refine .ro _ _ _ sz (fun i j => vs (i * sz + j)) (by omega) (fun hne h0 => ?_) hlen (fun i j hi hj => ?_) (fun i j hi hj => ?_)
    · refine h1 ?_
      rintro rfl
      have hn0 : 0 < n := by rw [← hl]; exact List.length_pos_iff.2 hne
      have := hle 0 hn0
      simp at hn; omega
    · rw [hlen i hi] at hj
      have := hle i (by rw [← hl]; exact hi)
      have h5 := h3 (i * sz + j) (by omega)
      rw [← h5]; congr 2; omega
    · have hj' := hj
      rw [hlen i hi] at hj'
      have := hle i (by rw [← hl]; exact hi)
      have h5 := h4 (i * sz + j) (by omega)
      have e : (chunks sz n cs)[i][j] = cs[i * sz + j]'(by omega) := by
        simp only [chunks_get, List.getElem_take, List.getElem_drop]
      rw [e]; exact h5

theorem slcA_V {t e : TypeId} {len sz : Nat} (ht : P.underlying t = some (.array len e)) (hsz : szOf P e = some sz) {x r : AV} {xv : Value} {lo hi : Option AV} {lov hiv : Option Value}
    (hx : V c x xv) (hlo : ∀ y, lo = some y → ∃ yv, lov = some yv ∧ V c y yv) (hlo' : lo = none → lov = none)
    (hhi : ∀ y, hi = some y → ∃ yv, hiv = some yv ∧ V c y yv) (hhi' : hi = none → hiv = none)
    (h : slcA c.H len sz x lo hi = some r) : ∃ v, (Instr.sliceAt t xv lov hiv none).run P c.w = .ok v c.w ∧ V c r v := by
  unfold slcA at h
  split at h
  case h_2 => simp at h
  rename_i hh eh
  split at h
  case h_2 => simp at h
  rename_i l el
  have hhle := bnd_le eh
  have hlle := bnd_le el
  have hb := run_bounds (P := P) (isS := false) (len := len) (cap := len) hlo hlo' hhi hhi' (Nat.le_refl _) eh el c.w
  have hrun : ∀ a, (Instr.sliceAt t (.pointer (some a)) lov hiv none).run P c.w = .ok (.slice (some (if len = l then a else a.add (l * sz))) (hh - l) (len - l)) c.w := by
    intro a
    simp only [Instr.sliceAt, Sem.run_bind, run_under ht, Result.andThen_ok, Instr.sureAddr, Sem.run_pure, hb, run_szOf hsz]
  have hmul : l * sz + (hh - l) * sz ≤ len * sz := by
    rw [← Nat.add_mul]; exact Nat.mul_le_mul_right sz (by omega)
  split at h
  · rename_i cs
    obtain ⟨a, rfl⟩ : ∃ a, xv = .pointer (some a) := by cases hx; exact ⟨_, rfl⟩
    refine ⟨_, hrun a, ?_⟩
    split at h
    · rename_i heq
      injection h with h; subst h; subst heq
      simp only [Nat.sub_self]
      exact ro_nil _ _
    · rename_i hne
      have hcl : ¬ len = l := by omega
      rw [if_neg hcl]
      split at h
      case isFalse => simp at h
      rename_i hle
      injection h with h; subst h
      refine pro_chunks (pro_drop hx (by omega)) sz (hh - l) _ (by simp; omega) (by omega)
  · rename_i id ext e' o
    cases hx with
    | pown _ _ _ _ _ hp =>
      obtain ⟨hlt, a, rfl, hsp, hp⟩ := hp
      refine ⟨_, hrun a, ?_⟩
      split at h
      · rename_i heq
        injection h with h; subst h; subst heq
        simp only [Nat.sub_self]
        exact ro_nil _ _
      · rename_i hne
        have hcl : ¬ len = l := by omega
        rw [if_neg hcl]
        split at h
        case h_2 => simp at h
        rename_i SZ es hl
        obtain ⟨nl, hid⟩ := getLive_some hl
        split at h
        case isFalse => simp at h
        injection h with h; subst h
        rw [add_addr _ _ hsp]
        refine .arr _ _ _ _ _ _ _ ⟨hlt, _, ⟨_, rfl, by omega⟩, rfl, fun nl' sz' es' hid' => ⟨(hp _ _ _ hid').1, fun he' => ?_⟩⟩
        rw [(hp _ _ _ hid').2 he', Nat.add_assoc]
  · simp at h

theorem eqA_V {t : TypeId} {ks : List CK} (hk : flatKinds P 12 t = some ks) (hg : P.eqGuardType P.depth t = false) {d : TypeDesc} (hu : P.underlying t = some d)
    (hd : (match d with | .struct _ | .array _ _ => true | _ => false) = true) {neg : Bool} {x y r : AV} {xv yv : Value}
    (hx : V c x xv) (hy : V c y yv) (h : eqA neg ks x y = some r) (X Y : Operand) :
    ∃ v, (eqGuard (if neg then .neq else .eql) t X Y xv yv >>= fun _ => binOp (if neg then .neq else .eql) t xv yv).run P c.w = .ok v c.w ∧ V c r v := by
  unfold eqA at h
  split at h
  · rename_i cs ds
    cases hx with
    | agg _ xs hxs hxv =>
      cases hy with
      | agg _ ys hys hyv =>
        split at h
        case h_2 => simp at h
        rename_i b hb
        injection h with h; subst h
        obtain ⟨hl1, hl2⟩ := eqCells_len hb
        obtain ⟨px, py, r1, r2, r3⟩ := eq_run (c := c) 12 t ks hk 10000 (by omega) cs ds xs ys 0 b c.w ⟨hxs, hxv⟩ ⟨hys, hyv⟩ (by
          rw [List.drop_zero, List.drop_zero, List.take_of_length_le (by omega), List.take_of_length_le (by omega)]; exact hb)
        have hag : agOf P t = some true := by
          unfold agOf; rw [hu]; cases d <;> simp at hd ⊢
        have hsz : ∃ n, szOf P t = some n ∧ n = ks.length := by
          unfold flatKinds at hk
          rw [hu] at hk
          cases d <;> simp at hd
          · rename_i n e
            simp only at hk
            split at hk
            case h_2 => simp at hk
            rename_i k0 sz hk0 hsz0
            split at hk
            case isFalse => simp at hk
            rename_i hc
            injection hk with hk
            refine ⟨_, hc.2, ?_⟩
            rw [← hk]; simp [hc.1]
          · rename_i fs
            simp only at hk
            split at hk
            · simp at hk
            · split at hk
              case h_2 => simp at hk
              split at hk
              case isFalse => simp at hk
              rename_i hc
              injection hk with hk
              exact ⟨_, hc, by rw [hk]⟩
        obtain ⟨n, hn, hnl⟩ := hsz
        have e1 : px = .agg xs := by
          have := part_agg (P := P) hu hd hn (vs := xs) (o := 0) c.w
          rw [this] at r1
          injection r1 with r1
          rw [← r1]
          congr 1
          rw [Nat.zero_add, hnl, ← hl1, ← hxs]; simp
        have e2 : py = .agg ys := by
          have := part_agg (P := P) hu hd hn (vs := ys) (o := 0) c.w
          rw [this] at r2
          injection r2 with r2
          rw [← r2]
          congr 1
          rw [Nat.zero_add, hnl, ← hl2, ← hys]; simp
        subst e1; subst e2
        cases neg
        · refine ⟨_, ?_, V.bool _⟩
          simp only [Bool.false_eq_true, if_false, Sem.run_bind, run_eqGuard_agg c.w _ t X Y xs ys hg, Result.andThen_ok, run_eql_struct, r3]
          simp
        · refine ⟨_, ?_, V.bool _⟩
          simp only [if_true, Sem.run_bind, run_eqGuard_agg c.w _ t X Y xs ys hg, Result.andThen_ok, run_neq_struct, r3]
          simp
  · simp at h

theorem eqB_V {t : TypeId} (hu : P.underlying t = some .bool) {neg : Bool} {x y r : AV} {xv yv : Value}
    (hx : V c x xv) (hy : V c y yv) (h : eqB neg x y = some r) (X Y : Operand) :
    ∃ v, (eqGuard (if neg then .neq else .eql) t X Y xv yv >>= fun _ => binOp (if neg then .neq else .eql) t xv yv).run P c.w = .ok v c.w ∧ V c r v := by
  unfold eqB at h
  split at h
  · rename_i a b
    cases hx; cases hy
    injection h with h; subst h
    have hq := run_equalIn_bool' (P := P) c.w 9999 t a b hu
    refine ⟨_, ?_, V.bool _⟩
    cases neg
    · have hg : (eqGuard .eql t X Y (.bool a) (.bool b)).run P c.w = .ok () c.w := rfl
      simp only [Bool.false_eq_true, if_false, Sem.run_bind, hg, Result.andThen_ok, binOp]
      simp [Op.equal, Op.maxDepth, hq]
    · have hg : (eqGuard .neq t X Y (.bool a) (.bool b)).run P c.w = .ok () c.w := rfl
      simp only [if_true, Sem.run_bind, hg, Result.andThen_ok, binOp]
      simp [Op.equal, Op.maxDepth, hq]
  · simp at h

theorem isNil_V {x : AV} {xv : Value} {b : Bool} (hx : V c x xv) (h : isNil c.H x = some b) :
    ∃ a l k, xv = .slice a l k ∧ a.isNone = b := by
  unfold isNil at h
  split at h
  · cases hx; injection h with h; subst h; exact ⟨_, _, _, rfl, rfl⟩
  · split at h
    · simp at h
    · cases hx; injection h with h; subst h; exact ⟨_, _, _, rfl, rfl⟩
  · rename_i id ext off len
    cases hx with
    | own _ _ _ _ _ how =>
      split at h
      case h_2 => simp at h
      rename_i sz es hl
      obtain ⟨nl, hid⟩ := getLive_some hl
      split at h
      case isFalse => simp at h
      rename_i hext
      injection h with h
      obtain ⟨_, _, how⟩ := how
      obtain ⟨_, how⟩ := how _ _ _ hid
      obtain ⟨_, how⟩ := how hext
      rcases how with ⟨h1, h2, h3⟩ | ⟨h1, cap, h3, _⟩
      · subst h3; subst h2
        simp [nlAt, hid, h1] at h
        exact ⟨_, _, _, rfl, by simp [← h]⟩
      · subst h3
        refine ⟨_, _, _, rfl, ?_⟩
        rw [← h]
        simp only [Option.isNone_some, nlAt, hid]
        cases hb : (decide (nl = .nil) && es.isEmpty) with
        | false => rfl
        | true => exfalso; simp at hb; exact h1 hb
  · simp at h

theorem eqN_V {t e : TypeId} (hu : P.underlying t = some (.slice e)) {neg : Bool} {x y r : AV} {xv yv : Value}
    (hx : V c x xv) (hy : V c y yv) (h : eqN c.H neg x y = some r) (X Y : Operand) :
    ∃ v, (eqGuard (if neg then .neq else .eql) t X Y xv yv >>= fun _ => binOp (if neg then .neq else .eql) t xv yv).run P c.w = .ok v c.w ∧ V c r v := by
  have key : ∀ (a a' : Option Addr) (l k l' k' : Nat) (b : Bool), ((a.isNone = b ∧ a' = none) ∨ (a'.isNone = b ∧ a = none)) → ∃ v, (eqGuard (if neg then .neq else .eql) t X Y (.slice a l k) (.slice a' l' k') >>= fun _ => binOp (if neg then .neq else .eql) t (.slice a l k) (.slice a' l' k')).run P c.w = .ok v c.w ∧ V c (.bool (b != neg)) v := by
    intro a a' l k l' k' b hb
    have hq : ∀ d, (Op.equalIn (d + 1) t (.slice a l k) (.slice a' l' k')).run P c.w = .ok b c.w := by
      intro d
      rcases hb with ⟨h1, rfl⟩ | ⟨h1, rfl⟩
      · cases a <;> simp at h1 <;> subst h1 <;> simp [Op.equalIn, run_under hu]
      · cases a' <;> simp at h1 <;> subst h1 <;> simp [Op.equalIn, run_under hu]
    replace hq := hq 9999
    refine ⟨_, ?_, V.bool _⟩
    cases neg
    · have hg : (eqGuard .eql t X Y (.slice a l k) (.slice a' l' k')).run P c.w = .ok () c.w := rfl
      simp only [Bool.false_eq_true, if_false, Sem.run_bind, hg, Result.andThen_ok, binOp]
      simp [Op.equal, Op.maxDepth, hq]
    · have hg : (eqGuard .neq t X Y (.slice a l k) (.slice a' l' k')).run P c.w = .ok () c.w := rfl
      simp only [if_true, Sem.run_bind, hg, Result.andThen_ok, binOp]
      simp [Op.equal, Op.maxDepth, hq]
  unfold eqN at h
  split at h
  · split at h
    case h_2 => simp at h
    rename_i b hb
    injection h with h; subst h
    obtain ⟨a, l, k, rfl, ha⟩ := isNil_V hx hb
    cases hy
    exact key _ _ _ _ _ _ _ (.inl ⟨ha, rfl⟩)
  · split at h
    case h_2 => simp at h
    rename_i b hb
    injection h with h; subst h
    obtain ⟨a, l, k, rfl, ha⟩ := isNil_V hy hb
    cases hx
    exact key _ _ _ _ _ _ _ (.inr ⟨ha, rfl⟩)
  · simp at h

theorem lenOf_V {x : AV} {xv : Value} {n : Int} (hx : V c x xv) (h : lenOf x = some n) : ∃ a l k, xv = .slice a l k ∧ n = l := by
  unfold lenOf at h
  split at h
  · cases hx <;> (injection h with h; exact ⟨_, _, _, rfl, h.symm⟩)
  · cases hx with
    | own _ _ _ _ _ how => obtain ⟨_, ⟨a, cap, rfl⟩, _⟩ := how; injection h with h; exact ⟨_, _, _, rfl, h.symm⟩
  · cases hx with
    | arr _ _ _ _ _ _ _ ha => obtain ⟨_, a, ⟨cap, rfl, _⟩, _⟩ := ha; injection h with h; exact ⟨_, _, _, rfl, h.symm⟩
  · cases hx; injection h with h; exact ⟨_, _, _, rfl, h.symm⟩
  · simp at h

theorem isNilP_V {x : AV} {xv : Value} {b : Bool} (hx : V c x xv) (h : isNilP x = some b) : ∃ a, xv = .pointer a ∧ a.isNone = b := by
  unfold isNilP at h
  split at h
  · cases hx; injection h with h; subst h; exact ⟨_, rfl, rfl⟩
  · cases hx; injection h with h; subst h; exact ⟨_, rfl, rfl⟩
  · cases hx with
    | pown _ _ _ _ _ hp => obtain ⟨_, _, rfl, _⟩ := hp; injection h with h; subst h; exact ⟨_, rfl, rfl⟩
  · simp at h

theorem eqP_V {t e : TypeId} (hu : P.underlying t = some (.pointer e)) {neg : Bool} {x y r : AV} {xv yv : Value}
    (hx : V c x xv) (hy : V c y yv) (h : eqP neg x y = some r) (X Y : Operand) :
    ∃ v, (eqGuard (if neg then .neq else .eql) t X Y xv yv >>= fun _ => binOp (if neg then .neq else .eql) t xv yv).run P c.w = .ok v c.w ∧ V c r v := by
  have key : ∀ (a a' : Option Addr) (b : Bool), ((a.isNone = b ∧ a' = none) ∨ (a'.isNone = b ∧ a = none)) → ∃ v, (eqGuard (if neg then .neq else .eql) t X Y (.pointer a) (.pointer a') >>= fun _ => binOp (if neg then .neq else .eql) t (.pointer a) (.pointer a')).run P c.w = .ok v c.w ∧ V c (.bool (b != neg)) v := by
    intro a a' b hb
    have hq : ∀ d, (Op.equalIn (d + 1) t (.pointer a) (.pointer a')).run P c.w = .ok b c.w := by
      intro d
      rcases hb with ⟨h1, rfl⟩ | ⟨h1, rfl⟩
      · cases a <;> simp at h1 <;> subst h1 <;> simp [Op.equalIn, run_under hu]
      · cases a' <;> simp at h1 <;> subst h1 <;> simp [Op.equalIn, run_under hu]
    replace hq := hq 9999
    refine ⟨_, ?_, V.bool _⟩
    cases neg
    · have hg : (eqGuard .eql t X Y (.pointer a) (.pointer a')).run P c.w = .ok () c.w := rfl
      simp only [Bool.false_eq_true, if_false, Sem.run_bind, hg, Result.andThen_ok, binOp]
      simp [Op.equal, Op.maxDepth, hq]
    · have hg : (eqGuard .neq t X Y (.pointer a) (.pointer a')).run P c.w = .ok () c.w := rfl
      simp only [if_true, Sem.run_bind, hg, Result.andThen_ok, binOp]
      simp [Op.equal, Op.maxDepth, hq]
  unfold eqP at h
  split at h
  · split at h
    case h_2 => simp at h
    rename_i b hb
    injection h with h; subst h
    obtain ⟨a, rfl, ha⟩ := isNilP_V hx hb
    cases hy
    exact key _ _ _ (.inl ⟨ha, rfl⟩)
  · split at h
    case h_2 => simp at h
    rename_i b hb
    injection h with h; subst h
    obtain ⟨a, rfl, ha⟩ := isNilP_V hy hb
    cases hx
    exact key _ _ _ (.inr ⟨ha, rfl⟩)
  · simp at h

theorem nchk_V {x r : AV} {xv : Value} (hx : V c x xv) (h : nchk x = some r) : r = x ∧ ((∃ a, xv = .pointer (some a)) ∨ ∃ f cap, xv = .func (.func f) #[] cap) := by
  unfold nchk at h
  split at h
  · injection h with h; cases hx; exact ⟨h.symm, .inl ⟨_, rfl⟩⟩
  · injection h with h
    cases hx with
    | pown _ _ _ _ _ hp => obtain ⟨_, _, rfl, _⟩ := hp; exact ⟨h.symm, .inl ⟨_, rfl⟩⟩
  · injection h with h; cases hx; exact ⟨h.symm, .inr ⟨_, _, rfl⟩⟩
  · simp at h

end
end Go.Am
