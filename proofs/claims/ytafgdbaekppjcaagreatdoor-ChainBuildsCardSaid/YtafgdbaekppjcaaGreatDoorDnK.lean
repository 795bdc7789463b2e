/- Typed states: regions whose order is drawn. No condition. -/
import Derived.Test.YtafgdbaekppjcaaGreatDoorDnJ
set_option linter.unusedSectionVars false
set_option linter.unusedVariables false
set_option linter.unusedSimpArgs false
namespace Dnm
open Go hiding Obj mark
open Go.Pl Go.Am Go.Am.As
set_option linter.unusedVariables false
section
variable {G : Nat → Type} {R : Type}
/- footprints -/
def refsV : TV G → Option (List Nat)
  | .own i => some [i]
  | .po i _ => some [i]
  | .pe i _ _ => some [i]
  | .pa i _ _ _ => some [i]
  | .sa .. => none
  | .raw v => some (refs v)
  | _ => some []
theorem refsV_ok {g : Ge G} {ln : Nat → Nat} {v : TV G} {l : List Nat} (h : refsV v = some l) : refs (v.av g ln) = l := by
  cases v with
  | sa => cases h
  | olst t o => cases o <;> exact Option.some.inj h
  | optr t o => cases o <;> exact Option.some.inj h
  | _ => exact Option.some.inj h
def refssV : List (TV G) → Option (List Nat)
  | [] => some []
  | x :: xs => (match refsV x with
    | some a => (match refssV xs with | some b => some (a ++ b) | none => none)
    | none => none)
theorem refssV_ok {g : Ge G} {ln : Nat → Nat} : ∀ {l : List (TV G)} {m : List Nat}, refssV l = some m → (TV.avs g ln l).flatMap refs = m
  | [], m, h => Option.some.inj h
  | x :: l, m, h => by
    rw [refssV] at h
    split at h
    case h_2 => cases h
    rename_i a ha
    split at h
    case h_2 => cases h
    rename_i b hb
    injection h with h; subst h
    rw [TV.avs, List.flatMap_cons, refsV_ok ha, refssV_ok hb]
def fpV (gl : Nat → List AV) (s : DS G) (pl : Nat) : RO → Option FP
  | .load _ _ a => (match refsV (s.rx gl a) with | some l => some { r := l } | none => none)
  | .iadS _ x _ => (match refsV (s.rx gl x) with | some l => some { r := l } | none => none)
  | .slc _ x _ _ => (match refsV (s.rx gl x) with | some l => some { r := l } | none => none)
  | .box _ => some { w := [pl] }
  | .alloc _ => some { w := [pl] }
  | .bsl .. => some { w := [pl] }
  | .bslf .. => some { w := [pl] }
  | .mks .. => some { w := [pl] }
  | .store _ a _ => (match refsV (s.rx gl a) with | some l => some { w := l } | none => none)
  | .app _ _ x y => (match refsV (s.rx gl y) with
    | some l => (match refsV (s.rx gl x) with | some m => some { r := l, w := pl :: m } | none => none)
    | none => none)
  | .appf _ _ x y => (match refsV (s.rx gl y) with
    | some l => (match refsV (s.rx gl x) with | some m => some { r := l, w := pl :: m } | none => none)
    | none => none)
  | .mkc _ args => (match refssV (args.map (s.rx gl)) with | some l => some { r := l, w := [pl] } | none => none)
  | .call _ args => (match refssV (args.map (s.rx gl)) with | some l => some { r := l } | none => none)
  | .mov _ => some {}
  | .pick .. => some {}
  | .build .. => some {}
  | .bin .. => some {}
  | .un .. => some {}
  | .eqA .. => some {}
  | .eqB .. => some {}
  | .eqP .. => some {}
  | .nchk _ => some {}
  | .conv .. => some {}
  | .fld .. => some {}
  | .fad .. => some {}
  | .iadA .. => some {}
  | .idxA .. => some {}
  | .idxS .. => some {}
  | .slcS .. => some {}
  | .mkf .. => some {}
  | .len .. => some {}
  | .mn _ => some {}
  | .mx _ => some {}
  | .ext .. => some {}
  | .i2s _ => some {}
  | _ => none
theorem fpV_ok {g : Ge G} {gl : Nat → List AV} {s : DS G} {pl : Nat} {op : RO} {fp : FP} (h : fpV gl s pl op = some fp) : fpOfe (evT gl (s.tm g)) pl op = fp := by
  have rx := DS.rx_av g gl s
  cases op <;> first | exact Option.some.inj h | exact none_some h | skip
  all_goals
    unfold fpV at h
    dsimp only at h
  case mkc f args =>
    split at h
    case h_2 => cases h
    rename_i l hl
    injection h with h; subst h
    simp only [fpOfe, DS.rxs_av, refssV_ok hl]
  case call f args =>
    split at h
    case h_2 => cases h
    rename_i l hl
    injection h with h; subst h
    simp only [fpOfe, DS.rxs_av, refssV_ok hl]
  case app =>
    split at h
    case h_2 => cases h
    rename_i l hl
    split at h
    case h_2 => cases h
    rename_i m hm
    injection h with h; subst h
    simp only [fpOfe, rx, refsV_ok hl, refsV_ok hm]
  case appf =>
    split at h
    case h_2 => cases h
    rename_i l hl
    split at h
    case h_2 => cases h
    rename_i m hm
    injection h with h; subst h
    simp only [fpOfe, rx, refsV_ok hl, refsV_ok hm]
  all_goals
    split at h
    case h_2 => cases h
    rename_i l hl
    injection h with h; subst h
    simp only [fpOfe, rx, refsV_ok hl]
def lentO (H : List (TO G)) : TV G → Bool
  | .own id => (match H[id]? with
    | some (.lst ..) => true
    | some (.raws _ _ es) => freess es
    | _ => false)
  | _ => false
def lentV (H : List (TO G)) (v : TV G) : Bool := v.free || lentO H v
def lentsV (H : List (TO G)) : List (TV G) → Bool
  | [] => true
  | x :: xs => lentV H x && lentsV H xs
theorem lentO_ok {g : Ge G} (hg : g.Ok) {s : DS G} {v : TV G} (h : lentO s.H v = true) : (lent1 (s.Hv g) (v.av g s.ln)).isSome = true := by
  unfold lentO at h
  split at h
  case h_2 => cases h
  rename_i id
  split at h
  · rename_i fl t l hid
    have hp : pkV s.H 6 (.own id) = some (.lst t l) := by
      show (if (TV.own id : TV G).free then some _ else match s.H[id]? with | _ => _) = _
      rw [show (TV.own id : TV G).free = false from rfl]
      simp only [Bool.false_eq_true, if_false, hid]
    have hk := pkV_ok hg 6 hp
    unfold lent1
    rw [if_neg (by simp [TV.av, AV.bel])]
    show (match (s.Hv g)[id]? with | some (.live _ _ es) => _ | _ => none).isSome = true
    rw [Hv_get hid]
    simp only [TO.av, List.drop_zero, setN_lst hid]
    rw [List.take_of_length_le (by simp), if_pos (belss_map (encOk hg t).bel l)]
    have hk' : pk 6 (s.Hv g) (.own id l.length 0 l.length) = some (.ro (l.map (enc g t))) := by
      rw [show (TV.own id : TV G).av g s.ln = .own id (s.ln id) 0 (s.ln id) from rfl, setN_lst hid] at hk; exact hk
    rw [hk']; rfl
  · rename_i fl sz es hid
    have e : s.ln id = es.length := by unfold DS.ln lnH; rw [hid]; rfl
    have hp : pkV s.H 6 (.own id) = some (.rol es) := by
      show (if (TV.own id : TV G).free then some _ else match s.H[id]? with | _ => _) = _
      rw [show (TV.own id : TV G).free = false from rfl]
      simp only [Bool.false_eq_true, if_false, hid, h, if_true]
    have hk := pkV_ok hg 6 hp
    unfold lent1
    rw [if_neg (by simp [TV.av, AV.bel])]
    show (match (s.Hv g)[id]? with | some (.live _ _ es) => _ | _ => none).isSome = true
    rw [Hv_get hid]
    have hle : (TV.avss g s.ln es).length = es.length := by rw [avss_map, List.length_map]
    simp only [TO.av, List.drop_zero, e]
    rw [List.take_of_length_le (by rw [hle]; exact Nat.le_refl _), if_pos (freess_bel hg s.ln es h)]
    rw [show (TV.own id : TV G).av g s.ln = .own id (s.ln id) 0 (s.ln id) from rfl, e] at hk
    rw [hk]; rfl
  · cases h
theorem lentV_ok {g : Ge G} (hg : g.Ok) {s : DS G} {v : TV G} (h : lentV s.H v = true) : (lent1 (s.Hv g) (v.av g s.ln)).isSome = true := by
  unfold lentV at h
  rcases (Bool.or_eq_true _ _).mp h with h | h
  · unfold lent1
    rw [if_pos (free_bel hg _ v h)]; rfl
  · exact lentO_ok hg h
theorem lentsV_ok {g : Ge G} (hg : g.Ok) {s : DS G} : ∀ {l : List (TV G)}, lentsV s.H l = true → lentOk (s.Hv g) (TV.avs g s.ln l) = true
  | [], _ => rfl
  | x :: l, h => by
    rw [lentsV, Bool.and_eq_true] at h
    have h1 := lentV_ok hg h.1
    have h2 := lentsV_ok hg h.2
    unfold lentOk at h2 ⊢
    rw [TV.avs, lents]
    cases ha : lent1 (s.Hv g) (x.av g s.ln) with
    | none => rw [ha] at h1; cases h1
    | some a => cases hb : lents (s.Hv g) (TV.avs g s.ln l) with
      | none => rw [hb] at h2; cases h2
      | some b => rfl
def frzW (w : List Nat) (v : TV G) (s : DS G) (c : TV G → DS G → Option R) : Option R := match v with
  | .own id => if memN id w then (match s.H[id]? with
      | some (.lst fl t l) => if fl.free then c (.lst t l) (s.setO id .dead) else none
      | some (.raws fl sz es) => if fl.free && (freess es && indepss es) then c (.rol es) (s.setO id .dead) else none
      | _ => none) else none
  | _ => none
theorem memN_mem {x : Nat} : ∀ {l : List Nat}, memN x l = true → x ∈ l
  | y :: l, h => by
    rw [memN, Bool.or_eq_true] at h
    rcases h with h | h
    · rw [Nat.eq_of_beq_eq_true h]; exact List.mem_cons_self ..
    · exact List.mem_cons_of_mem _ (memN_mem h)
theorem frzW_ok {g : Ge G} (hg : g.Ok) {w : List Nat} {v : TV G} {s : DS G} {c : TV G → DS G → Option R} {r : R} (h : frzW w v s c = some r) : EvOk g s (frzRes w (some (v.av g s.ln, s.Hv g))) c r := by
  unfold frzW at h
  split at h
  case h_2 => cases h
  rename_i id
  split at h
  case isFalse => cases h
  rename_i hm
  have hw : ((refs ((TV.own id : TV G).av g s.ln)).all fun i => w.contains i) = true := by
    simp [TV.av, refs, memN_mem hm]
  have fin : ∀ {o : TO G} {v' : TV G} {fl : Fl} {sz : Nat} {es : List (List AV)}, s.H[id]? = some o → o.av g s.ln (s.FR g) = .live fl sz es → o.len = es.length → AV.belss 0 es = true → fl.free = true → v'.av g (s.setO id .dead).ln = .ro es → c v' (s.setO id .dead) = some r → EvOk g s (frzRes w (some ((TV.own id : TV G).av g s.ln, s.Hv g))) c r := by
    intro o v' fl sz es hid h1 h2 h3 h4 h5 h6
    obtain ⟨k1, k2, k3, k4⟩ := setO_ok (g := g) (o' := .dead) hid
    have e : s.ln id = es.length := by unfold DS.ln lnH; rw [hid]; exact h2
    have hH : (s.Hv g)[id]? = some (.live fl sz es) := by rw [Hv_get hid, h1]
    refine ⟨v', _, ?_, k2, k3, h6⟩
    unfold frzRes
    dsimp only
    rw [if_pos hw]
    have hf : frz1 0 ⟨[(TV.own id : TV G).av g s.ln], s.Hv g⟩ = some ⟨[.ro es], (s.Hv g).set id .dead⟩ := by
      unfold frz1
      rw [show (TV.own id : TV G).av g s.ln = .own id (s.ln id) 0 (s.ln id) from rfl, e]
      show (match getLive (s.Hv g) id with | some (_, es') => _ | none => none) = _
      simp only [getLive, hH, List.drop_zero, nlAt]
      rw [List.take_of_length_le (Nat.le_refl _), if_pos ⟨trivial, h3, h4⟩]; rfl
    rw [hf]
    dsimp only
    rw [k4, h5]; rfl
  split at h
  · rename_i fl t l hid
    split at h
    case isFalse => cases h
    rename_i hf
    exact fin hid rfl (by simp [TO.len]) (belss_map (encOk hg t).bel l) hf rfl h
  · rename_i fl sz es hid
    split at h
    case isFalse => cases h
    rename_i hf
    simp only [Bool.and_eq_true] at hf
    refine fin hid rfl (by simp [TO.len, avss_map]) (freess_bel hg s.ln es hf.2.1) hf.1 ?_ h
    show AV.ro _ = AV.ro _
    rw [indepss_av es hf.2.2]
  · cases h
structure ConM (G : Nat → Type) where
  f : Nat
  args : List Sh
  ts : List Ty
  t : Ty
  m : DL G ts → Option (List (t.D G))
def ConM.vs (g : Ge G) (c : ConM G) (x : DL G c.ts) : List (TV G) := rebA g c.args (viewDL g c.ts x)
def ConM.Ok (E : Env) (hp : Nat → Bool) (g : Ge G) (c : ConM G) : Prop := ∀ x l, c.m x = some l → l ≠ [] → ∃ n, cIT E.fns (execT E hp n) c.f (.pown 0 0 0 0 :: TV.avs g (fun _ => 0) (c.vs g x)) = some (.tup [.pown 0 0 (c.t.n g) 0, .ro (l.map (enc g c.t))])
def conMFind (g : Ge G) (f : Nat) (ys : List (TV G)) : List (ConM G) → Option ((c : ConM G) × DL G c.ts)
  | [] => none
  | c :: r => if Nat.beq c.f f then (match collA g c.args ys with
      | some l => (match mkDL g c.ts l with
        | some x => some ⟨c, x⟩
        | none => conMFind g f ys r)
      | none => conMFind g f ys r) else conMFind g f ys r
theorem conMFind_ok {g : Ge G} (hg : g.Ok) {f : Nat} {ys : List (TV G)} {ln : Nat → Nat} : ∀ {C : List (ConM G)} {p : (c : ConM G) × DL G c.ts}, conMFind g f ys C = some p → p.1 ∈ C ∧ p.1.f = f ∧ TV.avs g ln (p.1.vs g p.2) = TV.avs g ln ys
  | [], p, h => by cases h
  | c :: r, p, h => by
    have tl : conMFind g f ys r = some p → p.1 ∈ c :: r ∧ p.1.f = f ∧ TV.avs g ln (p.1.vs g p.2) = TV.avs g ln ys := fun h => by
      obtain ⟨h1, h2⟩ := conMFind_ok hg h
      exact ⟨List.mem_cons_of_mem _ h1, h2⟩
    rw [conMFind] at h
    split at h
    case isFalse => exact tl h
    rename_i hf
    split at h
    case h_2 => exact tl h
    rename_i l hl
    split at h
    case h_2 => exact tl h
    rename_i x hx
    injection h with h; subst h
    exact ⟨List.mem_cons_self .., Nat.eq_of_beq_eq_true hf, collA_ok hl (by rw [viewDL_av hg, mkDL_ok hg ln _ _ _ hx])⟩
def dopW (X : Cx G) (CM : List (ConM G)) (rec : Rec G) (pl : Nat) (s : DS G) (op : RO) (k : TV G → DS G → Option R) : Option R := match op with
  | .call f args => if lentsV s.H (args.map (s.rx X.gl)) then
      (match pkmV (pkV s.H 6) (args.map (s.rx X.gl)) with
       | some ys => (match conFind X.g f ys X.C with
         | some p => dcon X s (args.map (s.rx X.gl)) p k
         | none => none)
       | none => none) else none
  | .mkc f args => if TV.frees (args.map (s.rx X.gl)) then
      (match conMFind X.g f (args.map (s.rx X.gl)) CM with
       | some p => if indeps (p.1.vs X.g p.2) then (p.1.m p.2).bind fun l => (nonE l).bind fun _ => if s.fits pl (.lst .norm p.1.t l) then k (.own pl) (s.newO pl (.lst .norm p.1.t l)) else none else none
       | none => none) else none
  | .appf sz by' x y => (match refsV (s.rx X.gl x) with
    | some w => appV X.g s sz by' (s.rx X.gl x) (s.rx X.gl y) fun v s' => frzW (pl :: w) v s' k
    | none => none)
  | .bslf sz z len parts => bslV X.g s pl sz z len (parts.map fun p => (p.1, s.rx X.gl p.2)) fun v s' => frzW [pl] v s' k
  | .callv _ _ => none
  | op => ev X.g X.gl s pl op k
def plOkV (H : List (TO G)) (pl : Nat) (op : RO) : Bool := !op.isAlloc || (match H[pl]? with | some .rsv => true | _ => false)
def ddW (X : Cx G) (CM : List (ConM G)) (rec : Rec G) (b0 : Nat) : List (Nat × ROp) → DS G → (DS G → List FP → Option R) → Option R
  | [], s, k => k s []
  | o :: os, s, k => (match o.2.guard with
    | none => (match fpV X.gl s (b0 + o.1) o.2.op with
      | some fp => if plOkV s.H (b0 + o.1) o.2.op then dopW X CM rec (b0 + o.1) s o.2.op fun v s' => ddW X CM rec b0 os (s'.putD o.2.dst v) fun s'' fs => k s'' (fp :: fs) else none
      | none => none)
    | some _ => none)
theorem WD_step {E : Env} {hp : Nat → Bool} {t : T} {H : List Obj} {b0 k n : Nat} {o : ROp} {os : List (Nat × ROp)} {v : AV} {H1 : List Obj} {f : FP} {K : T → List Obj → List FP → Prop} (h : actDT E.glob (cIT E.fns (execT E hp n)) (b0 + k) o t H = some (v, H1, f))
    (hk : WD E hp b0 os (putD t o.dst v) H1 (fun t' H' fs => K t' H' (f :: fs))) : WD E hp b0 ((k, o) :: os) t H K := by
  obtain ⟨m, t', H', fs, h1, h2⟩ := hk
  refine ⟨max n m, t', H', f :: fs, ?_, h2⟩
  rw [runDT, actDT_le (cIT_mono E.fns (execT_mono (Nat.le_max_left n m))) h]
  simp only [frc_eq]
  rw [runDT_le (cIT_mono E.fns (execT_mono (Nat.le_max_right n m))) os h1]
theorem EvOk.trans {g : Ge G} {s s1 : DS G} {m : Option (AV × List Obj)} {c : TV G → DS G → Option R} {r : R} (h1 : s1.tm g = s.tm g) (h2 : s1.FR g = s.FR g) (h : EvOk g s1 m c r) : EvOk g s m c r := by
  obtain ⟨w, s', e1, e2, e3, e4⟩ := h
  exact ⟨w, s', e1, by rw [e2, h1], by rw [e3, h2], e4⟩
theorem dopW_ok {X : Cx G} {E : Env} (hX : X.Ok E) {CM : List (ConM G)} (hM : ∀ c ∈ CM, c.Ok E X.hp X.g) {rec : Rec G} {pl : Nat} {s : DS G} {op : RO} {k : TV G → DS G → Option R} {r : R} (h : dopW X CM rec pl s op k = some r) :
    ∃ n, EvOk X.g s (evalDe (evT E.glob (s.tm X.g)) (cIT E.fns (execT E X.hp n)) pl op (s.Hv X.g)) k r := by
  have plain : ∀ {op : RO}, (∀ f a, op ≠ .call f a) → (∀ f a, op ≠ .mkc f a) → (∀ a b c d, op ≠ .appf a b c d) → (∀ a b c d, op ≠ .bslf a b c d) → ev X.g X.gl s pl op k = some r → ∃ n, EvOk X.g s (evalDe (evT E.glob (s.tm X.g)) (cIT E.fns (execT E X.hp n)) pl op (s.Hv X.g)) k r := by
    intro op n1 n2 n3 n4 h
    obtain ⟨h1, h2⟩ := ev_ok hX.g h
    rw [hX.gl] at h2
    refine ⟨0, ?_⟩
    have : evalDe (evT E.glob (s.tm X.g)) (cIT E.fns (execT E X.hp 0)) pl op (s.Hv X.g) = ev1 (evT E.glob (s.tm X.g)) pl op (s.Hv X.g) := by
      unfold evalDe
      split
      · exact (n2 _ _ rfl).elim
      · exact (n3 _ _ _ _ rfl).elim
      · exact (n4 _ _ _ _ rfl).elim
      · exact (n1 _ _ rfl).elim
      · exact ev1_eq h1
    rw [this]; exact h2
  unfold dopW at h
  split at h
  · rename_i f args
    split at h
    case isFalse => cases h
    rename_i hl
    split at h
    case h_2 => cases h
    rename_i ys hys
    split at h
    case h_2 => cases h
    rename_i p hp
    obtain ⟨n, v, H', h1, h2⟩ := dcon_ok hX (dr := true) (.inl rfl) hys hp h
    obtain ⟨w, s', e1, e2, e3, e4, e5⟩ := h2
    refine ⟨n, w, s', ?_, e3, e4, e5⟩
    unfold evalDe
    dsimp only
    have hl' := lentsV_ok hX.g hl
    rw [hX.gl, ← DS.rxs_av] at hl' h1
    rw [if_pos hl']
    simp only [evalOpe, RO.kind]
    rw [show doCall (fun _ => false) (cIT E.fns (execT E X.hp n)) (fun _ _ _ => none) f (args.map (evT E.glob (s.tm X.g))) (s.Hv X.g) = some (v, H') from h1, e1, e2]
  · rename_i f args
    split at h
    case isFalse => cases h
    rename_i hfr
    split at h
    case h_2 => cases h
    rename_i p hp
    split at h
    case isFalse => cases h
    rename_i hi
    obtain ⟨l, h1, h2⟩ := bind_some h
    obtain ⟨_, h3, h4⟩ := bind_some h2
    split at h4
    case isFalse => cases h4
    rename_i hf
    obtain ⟨e1, e2, e3⟩ := conMFind_ok hX.g (ln := s.ln) hp
    have hne : l ≠ [] := by rintro rfl; cases h3
    obtain ⟨n, hn⟩ := hM _ e1 _ _ h1 hne
    rw [e2, indeps_av (ln' := s.ln) _ hi, e3] at hn
    obtain ⟨k1, k2, k3⟩ := newO_ok (g := X.g) hf
    refine ⟨n, _, _, ?_, k1, k2, h4⟩
    have hb := frees_bel hX.g s.ln _ hfr
    unfold evalDe
    dsimp only
    unfold mkObj
    rw [hX.gl, ← DS.rxs_av] at hn hb
    rw [lents_free hb]
    dsimp only
    rw [hn]
    show (if _ then mkPut pl (s.Hv X.g) (p.1.t.n X.g) (.ro (l.map (enc X.g p.1.t))) else none) = _
    rw [if_pos (by rw [hb]; rfl), k3]
    show some (AV.own pl (l.map (enc X.g p.1.t)).length 0 (l.map (enc X.g p.1.t)).length, _) = some (AV.own pl (DS.ln _ pl) 0 (DS.ln _ pl), _)
    rw [newO_self (fits_le hf)]
    simp [TO.len, TO.av]
  · rename_i sz by' x y
    split at h
    case h_2 => cases h
    rename_i w hw
    obtain ⟨v, s', e1, e2, e3, e4⟩ := appV_ok (pl := pl) hX.g h
    refine ⟨0, ?_⟩
    have := frzW_ok hX.g e4
    unfold evalDe
    dsimp only
    show EvOk X.g s (frzRes _ (Am.append (s.Hv X.g) pl sz by' (evT E.glob (s.tm X.g) x) (evT E.glob (s.tm X.g) y))) k r
    rw [DS.rx_av X.g E.glob s x, DS.rx_av X.g E.glob s y, ← hX.gl, e1, refsV_ok hw]
    exact this.trans e2 e3
  · rename_i sz z len parts
    obtain ⟨v, s', e1, e2, e3, e4⟩ := bslV_ok (g := X.g) hX.g h
    refine ⟨0, ?_⟩
    have := frzW_ok hX.g e4
    unfold evalDe
    dsimp only
    rw [List.map_map] at e1
    have : evalWe (evT E.glob (s.tm X.g)) (s.Hv X.g) pl (.bsl sz z len parts) = some (v.av X.g s'.ln, s'.Hv X.g) := by
      rw [← hX.gl]
      simp only [evalWe, DS.rx_av X.g X.gl s]; exact e1
    rw [this]
    exact (frzW_ok hX.g e4).trans e2 e3
  · cases h
  · rename_i n1 n2 n3 n4 n5
    exact plain (fun f a e => n1 f a e) (fun f a e => n2 f a e) (fun a b c d e => n3 a b c d e) (fun a b c d e => n4 a b c d e) h
theorem ddW_ok {X : Cx G} {E : Env} (hX : X.Ok E) {CM : List (ConM G)} (hM : ∀ c ∈ CM, c.Ok E X.hp X.g) {rec : Rec G} {b0 : Nat} {r : R} {Q : T → List Obj → List FP → Prop} : ∀ (os : List (Nat × ROp)) {s : DS G} {k : DS G → List FP → Option R},
    ddW X CM rec b0 os s k = some r → (∀ s' fs, s'.FR X.g = s.FR X.g → k s' fs = some r → Q (s'.tm X.g) (s'.Hv X.g) fs) → WD E X.hp b0 os (s.tm X.g) (s.Hv X.g) Q
  | [], s, k, h, hk => WD_nil (hk s [] rfl h)
  | o :: os, s, k, h, hk => by
    obtain ⟨p, d, gd, op⟩ := o
    rw [ddW] at h
    dsimp only at h
    split at h
    case h_2 => cases h
    split at h
    case h_2 => cases h
    rename_i fp hfp
    split at h
    case isFalse => cases h
    rename_i hpl
    obtain ⟨n, w, s', e1, e2, e3, e4⟩ := dopW_ok hX hM h
    have hfp' := fpV_ok (g := X.g) hfp
    rw [hX.gl] at hfp'
    have hpl' : plOk (s.Hv X.g) (b0 + p) op = true := by
      unfold plOkV at hpl
      unfold plOk
      rcases (Bool.or_eq_true _ _).mp hpl with h | h
      · rw [h]; rfl
      · split at h
        · rename_i hr
          rw [Hv_get hr]
          exact (Bool.or_eq_true _ _).mpr (.inr rfl)
        · cases h
    refine WD_step (n := n) (v := w.av X.g s'.ln) (H1 := s'.Hv X.g) (f := fp) ?_ ?_
    · simp only [actDT, wantT]
      rw [if_pos hpl', e1]
      dsimp only
      rw [hfp']
    · have := ddW_ok hX hM os (Q := fun t' H' fs => Q t' H' (fp :: fs)) e4 (fun s'' fs h1 h2 => hk s'' (fp :: fs) (by rw [h1, DS.putD_FR, e3]) h2)
      rw [DS.putD_tm, DS.putD_Hv, e2] at this
      exact this
end
end Dnm
