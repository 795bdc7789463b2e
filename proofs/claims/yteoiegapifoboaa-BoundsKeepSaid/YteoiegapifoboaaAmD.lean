/- A region's operations may be run in any order that its edges allow: the abstract machine comes to the same state. Condition: drawOk. -/
import Derived.Test.YteoiegapifoboaaAmC
namespace Go.Am

section
variable (G : Nat → List AV) (cI : CI)
abbrev noH : CH := fun _ _ _ => none
abbrev noHp : Nat → Bool := fun _ => false

/-- what an operation writes into its slot, and the heap behind it -/
def act (o : ROp) (t : List AV) (H : List Obj) : Option (AV × List Obj) :=
  match want t o.guard with
  | some true => evalOp G noHp cI noH H.length o.op t H
  | some false => some (.tup [], H)
  | none => none

theorem runOps_cons (o : ROp) (os : List ROp) (t : List AV) (H : List Obj) :
    runOps G noHp cI noH (o :: os) t H = match act G cI o t H with
      | some (v, H') => runOps G noHp cI noH os (setD t o.dst v) H'
      | none => none := by
  rw [runOps, act]
  cases want t o.guard with
  | none => rfl
  | some b => cases b <;> rfl

theorem map_congr' {l : List RX} {f g : RX → AV} (h : ∀ r ∈ l, f r = g r) : l.map f = l.map g := List.map_congr_left h

theorem opt_congr {l : Option RX} {f g : RX → AV} (h : ∀ r ∈ l.toList, f r = g r) : l.map f = l.map g := by
  cases l with
  | none => rfl
  | some x => simp [h x (by simp)]

theorem evalP_congr {t t' : List AV} {x : RO} (h : ∀ r ∈ x.ops, r.ev G t = r.ev G t') : evalP G t x = evalP G t' x := by
  cases x <;> simp only [RO.ops] at h <;> (try rfl)
  case build z parts =>
    simp only [evalP]
    have : parts.map (fun (x : Nat × Nat × RX) => (x.1, x.2.1, x.2.2.ev G t)) = parts.map (fun x => (x.1, x.2.1, x.2.2.ev G t')) :=
      List.map_congr_left fun x hx => by rw [h x.2.2 (List.mem_map.2 ⟨x, hx, rfl⟩)]
    rw [this]
  case mkf f cap => simp only [evalP]; rw [map_congr' h]
  case mn l => simp only [evalP]; rw [map_congr' h]
  case mx l => simp only [evalP]; rw [map_congr' h]
  case slcS x lo hi =>
    simp only [evalP]
    rw [h x (by simp), opt_congr (l := lo) (fun r hr => h r (by simp at hr ⊢; simp [hr])), opt_congr (l := hi) (fun r hr => h r (by simp at hr ⊢; simp [hr]))]
  all_goals (simp only [List.mem_cons, List.not_mem_nil, or_false, forall_eq_or_imp, forall_eq] at h; simp only [evalP, h])

theorem evalR_congr {t t' : List AV} {H : List Obj} {x : RO} (h : ∀ r ∈ x.ops, r.ev G t = r.ev G t') : evalR G t H x = evalR G t' H x := by
  cases x <;> simp only [RO.ops] at h <;> (try rfl)
  case slc sz x lo hi =>
    simp only [evalR]
    rw [h x (by simp), opt_congr (l := lo) (fun r hr => h r (by simp at hr ⊢; simp [hr])), opt_congr (l := hi) (fun r hr => h r (by simp at hr ⊢; simp [hr]))]
  case slcA len sz x lo hi =>
    simp only [evalR]
    rw [h x (by simp), opt_congr (l := lo) (fun r hr => h r (by simp at hr ⊢; simp [hr])), opt_congr (l := hi) (fun r hr => h r (by simp at hr ⊢; simp [hr]))]
  all_goals (simp only [List.mem_cons, List.not_mem_nil, or_false, forall_eq_or_imp, forall_eq] at h; simp only [evalR, h])

theorem evalW_congr {t t' : List AV} {H : List Obj} {pl : Nat} {x : RO} (h : ∀ r ∈ x.ops, r.ev G t = r.ev G t') : evalW G t H pl x = evalW G t' H pl x := by
  cases x <;> simp only [RO.ops] at h <;> (try rfl)
  case bsl sz z len parts =>
    simp only [evalW]
    have : parts.map (fun (x : Nat × RX) => (x.1, x.2.ev G t)) = parts.map (fun x => (x.1, x.2.ev G t')) :=
      List.map_congr_left fun x hx => by rw [h x.2 (List.mem_map.2 ⟨x, hx, rfl⟩)]
    rw [this]
  case bslr z len parts =>
    simp only [evalW]
    have : parts.map (fun (x : Nat × RX) => (x.1, x.2.ev G t)) = parts.map (fun x => (x.1, x.2.ev G t')) :=
      List.map_congr_left fun x hx => by rw [h x.2 (List.mem_map.2 ⟨x, hx, rfl⟩)]
    rw [this]
  all_goals (simp only [List.mem_cons, List.not_mem_nil, or_false, forall_eq_or_imp, forall_eq] at h; simp only [evalW, h])

theorem evalOp_congr {t t' : List AV} {H : List Obj} {x : RO} (hp : Nat → Bool) (cH : CH) (pl : Nat) (h : ∀ r ∈ x.ops, r.ev G t = r.ev G t') :
    evalOp G hp cI cH pl x t H = evalOp G hp cI cH pl x t' H := by
  unfold evalOp
  rw [evalP_congr G h, evalR_congr G h, evalW_congr G h]
  cases x.kind with
  | call =>
    dsimp only
    cases x with
    | call f args => dsimp only; rw [map_congr' (l := args) h]
    | callv f args =>
      simp only [RO.ops, List.mem_cons, forall_eq_or_imp] at h
      dsimp only; rw [h.1, map_congr' (l := args) h.2]
    | _ => rfl
  | _ => rfl

theorem getD_set_ne {t : List AV} {d s : Nat} {v : AV} (h : d ≠ s) : (t.set d v).getD s .any = t.getD s .any := by
  simp [List.getD, List.getElem?_set_ne h]

theorem ev_setD {t : List AV} {d : Option Nat} {v : AV} {r : RX} (h : ∀ s, slotOf r = some s → d ≠ some s) :
    r.ev G (setD t d v) = r.ev G t := by
  cases r with
  | t n =>
    cases d with
    | none => rfl
    | some d =>
      have : d ≠ n := fun e => h n rfl (by rw [e])
      simp [RX.ev, setD, List.getD, List.getElem?_set_ne this]
  | _ => rfl

theorem act_congr {o : ROp} {t : List AV} {H : List Obj} {d : Option Nat} {v : AV} (h : notIn d (readsOf o) = true) :
    act G cI o (setD t d v) H = act G cI o t H := by
  have hr : ∀ s ∈ readsOf o, d ≠ some s := by
    intro s hs hd
    subst hd
    simp only [notIn, Bool.not_eq_true', List.contains_eq_mem] at h
    simp [hs] at h
  unfold act
  have hw : want (setD t d v) o.guard = want t o.guard := by
    cases hg : o.guard with
    | none => rfl
    | some g =>
      obtain ⟨s, b⟩ := g
      have := hr s (by simp [readsOf, hg])
      cases d with
      | none => rfl
      | some d =>
        have hne : d ≠ s := fun e => this (by rw [e])
        simp only [want, setD]
        rw [getD_set_ne hne]
  rw [hw]
  cases want t o.guard with
  | none => rfl
  | some b =>
    cases b with
    | false => rfl
    | true =>
      exact evalOp_congr G cI noHp noH H.length fun r hm => ev_setD G fun s hs => hr s (by simp [readsOf]; exact .inr ⟨r, hm, hs⟩)

theorem evalOp_nw {x : RO} {t : List AV} {H H' : List Obj} {pl : Nat} {v : AV} (hk : x.kind ≠ .write) (h : evalOp G noHp cI noH pl x t H = some (v, H')) : H' = H := by
  unfold evalOp at h
  cases hx : x.kind with
  | write => exact (hk hx).elim
  | pure => rw [hx] at h; dsimp only at h; split at h <;> simp at h; exact h.2.symm
  | read => rw [hx] at h; dsimp only at h; split at h <;> simp at h; exact h.2.symm
  | call =>
    rw [hx] at h; dsimp only at h
    have key : ∀ f args, doCall noHp cI noH f args H = some (v, H') → H' = H := by
      intro f args h
      unfold doCall at h
      simp only [noHp, Bool.false_eq_true, if_false] at h
      split at h
      · split at h
        · split at h
          · simp at h; exact h.2.symm
          · simp at h
        · simp at h
      · simp [noH] at h
    split at h
    · exact key _ _ h
    · split at h
      · exact key _ _ h
      · simp at h
    · simp at h

theorem act_nw {o : ROp} {t : List AV} {H H' : List Obj} {v : AV} (hk : o.op.kind ≠ .write) (h : act G cI o t H = some (v, H')) : H' = H := by
  unfold act at h
  split at h
  · exact evalOp_nw G cI hk h
  · simp at h; exact h.2.symm
  · simp at h

theorem act_pure {o : ROp} {t : List AV} {H H' : List Obj} {v : AV} (hk : o.op.kind = .pure) (K : List Obj) (h : act G cI o t H = some (v, H')) :
    act G cI o t K = some (v, K) := by
  unfold act at h ⊢
  split at h
  · simp only [evalOp, hk] at h ⊢
    split at h
    · rename_i u hu; simp at h; simp [h.1]
    · simp at h
  · simp at h; simp [h.1]
  · simp at h

theorem setD_comm {t : List AV} {d e : Option Nat} {u v : AV} (h : unlike d e = true) : setD (setD t d u) e v = setD (setD t e v) d u := by
  cases d with
  | none => rfl
  | some d =>
    cases e with
    | none => rfl
    | some e =>
      have : d ≠ e := by simpa [unlike] using h
      simp only [setD]
      exact List.set_comm _ _ this

theorem swap {a b : ROp} {os : List ROp} {t : List AV} {H : List Obj} {r} (hf : free a b = true)
    (h : runOps G noHp cI noH (a :: b :: os) t H = some r) : runOps G noHp cI noH (b :: a :: os) t H = some r := by
  simp only [free, Bool.and_eq_true] at hf
  obtain ⟨⟨⟨h1, h2⟩, h3⟩, h4⟩ := hf
  rw [runOps_cons] at h
  split at h
  case h_2 => simp at h
  rename_i v H1 ha
  rw [runOps_cons, act_congr G cI h1] at h
  split at h
  case h_2 => simp at h
  rename_i u H2 hb
  have key : ∃ Hb, act G cI b t H = some (u, Hb) ∧ act G cI a t Hb = some (v, H2) := by
    by_cases ka : a.op.kind = .pure
    · have := act_nw G cI (by rw [ka]; simp) ha
      subst this
      exact ⟨H2, hb, act_pure G cI ka H2 ha⟩
    · by_cases kb : b.op.kind = .pure
      · have := act_nw G cI (by rw [kb]; simp) hb
        subst this
        exact ⟨H, act_pure G cI kb H hb, ha⟩
      · have kaw : a.op.kind ≠ .write := by
          intro e; rw [e] at h4; cases hk : b.op.kind <;> simp [freeKind, hk] at h4; exact kb hk
        have kbw : b.op.kind ≠ .write := by
          intro e; rw [e] at h4; cases hk : a.op.kind <;> simp [freeKind, hk] at h4; exact ka hk
        have e1 := act_nw G cI kaw ha
        subst e1
        have e2 := act_nw G cI kbw hb
        subst e2
        exact ⟨H2, hb, ha⟩
  obtain ⟨Hb, k1, k2⟩ := key
  rw [runOps_cons, k1]
  dsimp only
  rw [runOps_cons, act_congr G cI h2, k2]
  dsimp only
  rw [← setD_comm h3]
  exact h

theorem front {a : ROp} {os : List ROp} {r} : ∀ (pre : List ROp) (t : List AV) (H : List Obj), (∀ b ∈ pre, free b a = true) →
    runOps G noHp cI noH (pre ++ a :: os) t H = some r → runOps G noHp cI noH (a :: (pre ++ os)) t H = some r := by
  intro pre
  induction pre with
  | nil => intro t H _ h; exact h
  | cons b pre ih =>
    intro t H hf h
    refine swap G cI (hf b (by simp)) ?_
    rw [List.cons_append, runOps_cons] at h
    rw [runOps_cons]
    cases hb : act G cI b t H with
    | none => rw [hb] at h; simp at h
    | some x =>
      rw [hb] at h
      exact ih _ _ (fun c hc => hf c (by simp [hc])) h

/-- any order in which no two operations that hang on each other are turned round -/
theorem reorder (at_ : Nat → ROp) {r} : ∀ (π L : List Nat) (t : List AV) (H : List Obj), L.Perm π → L.Pairwise (· < ·) →
    π.Pairwise (fun a b => b < a → free (at_ b) (at_ a) = true) →
    runOps G noHp cI noH (L.map at_) t H = some r → runOps G noHp cI noH (π.map at_) t H = some r := by
  intro π
  induction π with
  | nil => intro L t H hp _ _ h; rw [List.Perm.eq_nil hp] at h; exact h
  | cons i π ih =>
    intro L t H hp hs hπ h
    obtain ⟨L1, L2, rfl⟩ := List.append_of_mem (hp.mem_iff.2 (by simp : i ∈ i :: π))
    have hp' : (L1 ++ L2).Perm π := (List.Perm.cons_inv ((List.perm_middle (a := i)).symm.trans hp))
    rw [List.map_append, List.map_cons] at h
    have hlt : ∀ b ∈ L1, b < i := by
      intro b hb
      exact (List.pairwise_append.1 hs).2.2 b hb i (by simp)
    have h2 := front G cI (L1.map at_) t H (by
      intro b hb
      obtain ⟨j, hj, rfl⟩ := List.mem_map.1 hb
      exact (List.pairwise_cons.1 hπ).1 j (hp'.mem_iff.1 (by simp [hj])) (hlt j hj)) h
    rw [List.map_cons, runOps_cons]
    rw [runOps_cons] at h2
    cases ha : act G cI (at_ i) t H with
    | none => rw [ha] at h2; simp at h2
    | some x =>
      rw [ha] at h2
      refine ih (L1 ++ L2) _ _ hp' ?_ (List.pairwise_cons.1 hπ).2 (by rw [List.map_append]; exact h2)
      refine hs.sublist ?_
      simp
end
end Go.Am
