/- Appends, and all operations that make or change memory, joined. Condition: the state's relation. -/
import Derived.Test.YteoiegapifoboaaAmQ
namespace Go.Am
section
variable {P : Program} {F : Nat → Prop} {c : Ctx}

theorem fits {need old bytes : Nat} (h : old < need) (hb : need * bytes ≤ 2 ^ 40) : ¬ (Builtin.nextslicecap need old * bytes > 2 ^ 48) := by
  have h1 : (2:Nat)^40 = 1099511627776 := by decide
  have := growslice_fits (bytes := bytes) h (by rw [h1] at hb; omega)
  have h2 : (2:Nat)^48 = 281474976710656 := by decide
  omega

/-- the append's run, with room -/
theorem run_app_room {t u ty e : TypeId} {sz : Nat} {d : TypeDesc} (ht : P.underlying t = some (.slice e)) (hu : P.underlying u = some d) (hd : (∃ e', d = .slice e') ∨ d = .string)
    (hsz : szOf P e = some sz) {xv : Value} {m : Nat} {arr : Array Value} (w : World) (hl : (Builtin.lenOf xv).run P w = .ok m w) (hf : (Builtin.firstCells sz m xv).run P w = .ok arr w)
    {b sLen sCap : Nat} (hroom : sLen + m ≤ sCap) {w' : World} (hst : (storeCells ⟨b, sLen * sz, none⟩ arr.toList).run P w = .ok () w') :
    (Builtin.append_ #[t, u] ty #[.slice (some ⟨b, 0, none⟩) sLen sCap, xv]).run P w = .ok (.slice (some ⟨b, 0, none⟩) (sLen + m) sCap) w' := by
  unfold Builtin.append_
  rcases hd with ⟨e', rfl⟩ | rfl
  all_goals
    simp only [List.getElem?_toArray, List.getElem?_cons_zero, List.getElem?_cons_succ, Sem.run_bind, run_under ht, run_under hu, Result.andThen_ok, run_szOf hsz, Sem.run_pure,
      Bool.false_eq_true, if_false, hl, hroom, if_true, Bool.not_false, hf, add_eq, Nat.zero_add, hst]

/-- the append's run, where a new row is made -/
theorem run_app_grow {t u ty e : TypeId} {sz bytes : Nat} {d : TypeDesc} (ht : P.underlying t = some (.slice e)) (hu : P.underlying u = some d) (hd : (∃ e', d = .slice e') ∨ d = .string)
    (hsz : szOf P e = some sz) (hby : bytesOf P e = some bytes) {z : List AV} (hz : zeroOf P e = some z) (hzl : z.length = sz) {xv : Value} {m : Nat} {arr old : Array Value} (w : World)
    (hl : (Builtin.lenOf xv).run P w = .ok m w) (hf : ∀ w' : World, w'.heap = w.heap → (Builtin.firstCells sz m xv).run P w' = .ok arr w')
    {base : Option Addr} {sLen sCap : Nat} (hfo : ∀ w' : World, w'.heap = w.heap → (Builtin.firstCells sz sLen (.slice base sLen sCap)).run P w' = .ok old w')
    (hroom : sCap < sLen + m) (hb1 : (sLen + m) * bytes ≤ 2 ^ 40) (hb2 : sLen + m ≤ 2 ^ 40) :
    ∃ cap rest k, sLen + m ≤ cap ∧ rest.size = (cap - (sLen + m)) * sz ∧
      (Builtin.append_ #[t, u] ty #[.slice base sLen sCap, xv]).run P w =
        .ok (.slice (some ⟨w.heap.size, 0, none⟩) (sLen + m) cap) { w with drawn := k, heap := w.heap.push (.cells (old ++ arr ++ rest) e) } := by
  obtain ⟨i, zv, hi, hzv, rfl⟩ := zeroOf_some hz
  have hib : i.bytes = bytes := by
    unfold bytesOf at hby; rw [hi] at hby; injection hby
  let cap := (Question.appendCap (sLen + m) sCap e).cut (w.tape w.drawn (.appendCap (sLen + m) sCap e))
  have hge : sLen + m ≤ cap := by simp [cap, Question.cut]
  refine ⟨cap, Builtin.zeroCells zv.cells (cap - (sLen + m)), w.drawn + 1, hge, ?_, ?_⟩
  · rw [size_zeroCells]; congr 1; simpa using hzl
  · have h63 : ¬ (((sLen + m : Nat) : Int) > IntKind.i64.max ∧ (False ∨ bytes = 0)) := by
      have h2 : IntKind.i64.max = 9223372036854775807 := by decide
      have h3 : (2:Nat)^40 = 1099511627776 := by decide
      rw [h2]; omega
    have h48 := fits (bytes := bytes) hroom hb1
    have hti : ∀ w, (typeInfo e).run P w = .ok i w := fun w => by simp [typeInfo, hi]
    have hfor : (Question.appendCap (sLen + m) sCap e).forced = false := rfl
    have hff := hfo { w with drawn := w.drawn + 1 } rfl
    have hfn := hf { w with drawn := w.drawn + 1 } rfl
    unfold Builtin.append_
    rcases hd with ⟨e', rfl⟩ | rfl
    all_goals
      simp only [List.getElem?_toArray, List.getElem?_cons_zero, List.getElem?_cons_succ, Sem.run_bind, run_under ht, run_under hu, Result.andThen_ok, run_szOf hsz, Sem.run_pure,
        Bool.false_eq_true, if_false, hl, Nat.not_le.2 hroom, hti, hib, h48, Sem.run_ite, run_choose, hfor, run_askRoom, run_zero hi hzv]
      rw [if_neg h63]
      simp only [Result.andThen_ok, hff, Bool.not_false, if_true, hfn, run_newRow]
      rfl


theorem extract_elems {es new : List (List AV)} {sz : Nat} {old arr rest : Array Value} (hold : Row c sz es old) (hos : old.size = es.length * sz) (hnew : Row c sz new arr) (has : arr.size = new.length * sz) :
    Row c sz (es ++ new) (old ++ arr ++ rest) := by
  intro i hi
  simp at hi
  by_cases h : i < es.length
  · simp only [List.getElem_append_left h]
    obtain ⟨g1, g2⟩ := hold i h
    refine ⟨g1, fun j hj => ?_⟩
    obtain ⟨u, hu, hv⟩ := g2 j hj
    refine ⟨u, ?_, hv⟩
    have hlt : i * sz + j < old.size := by
      rcases Nat.lt_or_ge (i * sz + j) old.size with e | e
      · exact e
      · rw [Array.getElem?_eq_none e] at hu; simp at hu
    rw [Array.append_assoc, Array.getElem?_append_left hlt]; exact hu
  · have h2 : es.length ≤ i := by omega
    simp only [List.getElem_append_right h2]
    obtain ⟨g1, g2⟩ := hnew (i - es.length) (by omega)
    refine ⟨g1, fun j hj => ?_⟩
    obtain ⟨u, hu, hv⟩ := g2 j hj
    refine ⟨u, ?_, hv⟩
    have hm : i * sz = es.length * sz + (i - es.length) * sz := by rw [← Nat.add_mul]; congr 1; omega
    have hlt : (i - es.length) * sz + j < arr.size := by
      rcases Nat.lt_or_ge ((i - es.length) * sz + j) arr.size with e | e
      · exact e
      · rw [Array.getElem?_eq_none e] at hu; simp at hu
    rw [Array.append_assoc, Array.getElem?_append_right (by omega), Array.getElem?_append_left (by omega)]
    rw [← hu]; congr 1; omega

/-- the world may have drawn -/
theorem V.drawn {d : Ctx} {x : AV} {v : Value} (h : V d x v) (w' : World) (hw : w'.heap = d.w.heap) : V { d with w := w' } x v :=
  V.mono (c := d) (d := { d with w := w' }) (fun b hb _ => ⟨by simp only [hw], hb⟩) (fun _ _ _ _ _ h => h) (fun _ _ _ _ _ h => h) (fun _ _ _ _ _ _ h => h) h

theorem SR.drawn (h : SR F c) (k : Nat) : Went F c { c with w := { c.w with drawn := k } } := by
  have hw : ({ c.w with drawn := k } : World).heap = c.w.heap := rfl
  generalize hw' : ({ c.w with drawn := k } : World) = w' at hw
  have hsm : Same c.w w' := by subst hw'; exact ⟨rfl, rfl, rfl, fun _ => rfl⟩
  refine ⟨⟨⟨?_, h.hr.inj⟩, h.hO, fun b hf => by simp only [hw]; exact h.hF b hf, h.disj⟩, fun x v hx => hx.drawn w' hw, fun n => ⟨by simp [hw], fun b _ _ => by simp [hw], fun x v _ hx => hx.drawn w' hw, fun b ho => .inl ho, fun h => h, hsm⟩⟩
  intro id nl sz es h1 h2
  obtain ⟨cells, elem, g1, g2, g3, g4, g5⟩ := h.hr.back id nl sz es h1 h2
  refine ⟨cells, elem, by simp only [hw]; exact g1, g2, g3, g4, fun i hi => ⟨(g5 i hi).1, fun j hj => ?_⟩⟩
  obtain ⟨u, hu, hv⟩ := (g5 i hi).2 j hj
  exact ⟨u, hu, hv.drawn w' hw⟩

theorem Row.went {d : Ctx} {sz : Nat} {es : List (List AV)} {cells : Array Value} (h : Row c sz es cells) (hv : ∀ x v, V c x v → V d x v) : Row d sz es cells := by
  intro i hi
  obtain ⟨g1, g2⟩ := h i hi
  refine ⟨g1, fun j hj => ?_⟩
  obtain ⟨u, hu, hV⟩ := g2 j hj
  exact ⟨u, hu, hv _ _ hV⟩

theorem append_V (h : SR F c) {pl : Nat} (hpl : Room c.H pl) {t u ty e : TypeId} {sz bytes : Nat} {d : TypeDesc} (ht : P.underlying t = some (.slice e)) (hu : P.underlying u = some d) (hd : (∃ e', d = .slice e') ∨ d = .string)
    (hsz : szOf P e = some sz) (hby : bytesOf P e = some bytes) {z : List AV} (hz : zeroOf P e = some z) (hzl : z.length = sz) {s x r : AV} {sv xv : Value} (hs : V c s sv) (hx : V c x xv) {H' : List Obj}
    (ha : append c.H pl sz bytes s x = some (r, H')) : ∃ dd : Ctx, dd.H = H' ∧ Went F c dd ∧ ∃ v, (Builtin.append_ #[t, u] ty #[sv, xv]).run P c.w = .ok v dd.w ∧ V dd r v := by
  unfold append at ha
  split at ha
  case h_1 => simp at ha
  rename_i new hnew
  split at ha
  case isFalse => simp at ha
  rename_i hall
  obtain ⟨arr, l1, l2, l3, l4, l5⟩ := src_V (P := P) h.hr hx hnew hall
  split at ha
  · cases hs
    split at ha
    · rename_i hne
      subst hne
      simp only [Option.some.injEq, Prod.mk.injEq] at ha
      obtain ⟨rfl, rfl⟩ := ha
      refine ⟨c, rfl, Went.refl h, .slice none 0 0, ?_, .nils⟩
      have harr : arr = #[] := by simpa using l3
      have q1 := l1 c.w
      have q2 := l2 c.w rfl
      simp only [List.length_nil] at q1 q2
      unfold Builtin.append_
      rcases hd with ⟨e', rfl⟩ | rfl
      all_goals simp [run_under ht, run_under hu, run_szOf hsz, q1, q2]
    · rename_i hne
      split at ha
      case isFalse => simp at ha
      rename_i hb
      simp only [Option.some.injEq, Prod.mk.injEq] at ha
      obtain ⟨rfl, rfl⟩ := ha
      have h0 : 0 < new.length := List.length_pos_iff.2 hne
      obtain ⟨cap, rest, k, hcap, hrest, hrun⟩ := run_app_grow (P := P) (ty := ty) ht hu hd hsz hby hz hzl c.w (l1 c.w) l2 (base := none) (sLen := 0) (sCap := 0) (old := #[])
        (fun w' _ => by simp [Builtin.firstCells]) (by omega) (by simpa using hb.1) (by simpa using hb.2)
      obtain ⟨hS, hVV, hF⟩ := h.drawn k
      have hrow : Row c sz ([] ++ new) (#[] ++ arr ++ rest) := extract_elems (fun i hi => by simp at hi) (by simp) l4 l3
      simp only [List.nil_append] at hrow
      obtain ⟨dd, d1, d2, d3, d4⟩ := made_slice hS hpl cap sz new (#[] ++ arr ++ rest) e (by
        simp only [Array.empty_append, Array.size_append, l3, hrest, ← Nat.add_mul]; congr 1; omega) (by omega) (Row.went hrow hVV)
      refine ⟨dd, d2, Went.trans ⟨hS, hVV, hF⟩ d3, _, ?_, d4⟩
      rw [hrun, d1]
      simp
  · rename_i id ext off len
    split at ha
    case h_2 => simp at ha
    rename_i sz' es hl
    obtain ⟨nl, hid⟩ := getLive_some hl
    split at ha
    case isFalse => simp at ha
    rename_i hc
    obtain ⟨hext, rfl, hlen, rfl, hb1, hb2⟩ := hc
    simp only [Option.some.injEq, Prod.mk.injEq] at ha
    obtain ⟨rfl, rfl⟩ := ha
    have hnl : nlAt c.H id = nl := by simp [nlAt, hid]
    rw [hnl]
    have hidlt := lt_of_some hid
    cases hs with
    | own _ _ _ _ _ how =>
    obtain ⟨_, _, how⟩ := how
    obtain ⟨hle, how⟩ := how _ _ _ hid
    obtain ⟨hol, how⟩ := how hext
    -- what comes of a new row
    have grow : ∀ (base : Option Addr) (sCap : Nat) (old : Array Value), (∀ w' : World, w'.heap = c.w.heap → (Builtin.firstCells sz' es.length (.slice base es.length sCap)).run P w' = .ok old w') →
        Row c sz' es old → old.size = es.length * sz' → sCap < es.length + new.length → new ≠ [] →
        ∃ dd : Ctx, dd.H = c.H.set id (.live nl sz' (es ++ new)) ∧ Went F c dd ∧ ∃ v, (Builtin.append_ #[t, u] ty #[.slice base es.length sCap, xv]).run P c.w = .ok v dd.w ∧
          V dd (.own id (es.length + new.length) 0 (es.length + new.length)) v := by
      intro base sCap old hfo hro hos hroom hne
      obtain ⟨cap, rest, k, hcap, hrest, hrun⟩ := run_app_grow (P := P) (ty := ty) ht hu hd hsz hby hz hzl c.w (l1 c.w) l2 hfo hroom hb1 hb2
      obtain ⟨hS, hVV, hF⟩ := h.drawn k
      have hrow : Row { c with w := { c.w with drawn := k } } sz' (es ++ new) (old ++ arr ++ rest) := Row.went (extract_elems hro hos l4 l3) hVV
      obtain ⟨dd, d1, d2, d3, d4, d5, d6, d7⟩ := upd hS id c.w.heap.size cap nl sz' (es ++ new) (old ++ arr ++ rest) e { c.w with drawn := k, heap := c.w.heap.push (.cells (old ++ arr ++ rest) e) } (c.H.set id (.live nl sz' (es ++ new)))
        (by simp) (by simp [hidlt]) (fun j hj => by left; rw [List.getElem?_set_ne (fun q => hj q.symm)]) (by rw [hid]; simp)
        (fun nl0 sz0 es0 h0 => by
          have h0' : c.H[id]? = some (.live nl0 sz0 es0) := h0
          rw [hid] at h0'; injection h0' with h0'; injection h0' with q1 q2 q3
          subst q1; subst q2; subst q3
          refine ⟨rfl, rfl, by simp, fun hh => ?_⟩
          exfalso
          simp at hh
          exact hne hh)
        (by rintro ⟨_, q⟩; simp at q; exact hne q.2) (Same.push { c.w with drawn := k } (old ++ arr ++ rest) e k) (by simp) (fun b hlt _ => by simp only [Array.getElem?_push]; rw [if_neg (by have : b < c.w.heap.size := hlt; omega)])
        (by simp) (.inl rfl) (by
          simp only [Array.size_append, l3, hos, hrest, ← Nat.add_mul]; congr 1; omega) (by simp; omega) hrow
      refine ⟨dd, d2, Went.trans ⟨hS, hVV, hF⟩ ⟨d3, d4, d5⟩, _, by rw [hrun, d1], .own _ _ _ _ _ ⟨by rw [Has, d2]; simp [hidlt], ⟨_, _, rfl⟩, fun nl' sz'' es'' hs' => ?_⟩⟩
      rw [d2] at hs'
      simp [hidlt] at hs'
      obtain ⟨rfl, rfl, rfl⟩ := hs'
      refine ⟨by simp, fun _ => ⟨by simp, .inr ⟨by rintro ⟨_, q⟩; simp at q; exact hne q.2, cap, by simp [d6], by simp [d7]⟩⟩⟩
    rcases how with ⟨hnl1, hes, rfl⟩ | ⟨hbk, cap, rfl, hcap⟩
    · subst hes
      have hlen0 : len = 0 := by simpa using hlen
      by_cases hne : new = []
      · subst hne
        have hH : c.H.set id (.live nl sz' ([] ++ [])) = c.H := by
          apply List.ext_getElem?
          intro j
          by_cases hj : j = id
          · subst hj; simp [hidlt]; exact (List.getElem?_eq_some_iff.1 hid).2.symm
          · rw [List.getElem?_set_ne (fun q => hj q.symm)]
        refine ⟨c, hH.symm, Went.refl h, .slice none 0 0, ?_, .own _ _ _ _ _ ⟨⟨hidlt, by rw [hid]; simp⟩, ⟨_, _, rfl⟩, fun nl' sz'' es'' hs' => ?_⟩⟩
        · have q1 := l1 c.w
          have q2 := l2 c.w rfl
          simp only [List.length_nil] at q1 q2
          unfold Builtin.append_
          rcases hd with ⟨e', rfl⟩ | rfl
          all_goals simp [run_under ht, run_under hu, run_szOf hsz, q1, q2]
        · rw [hid] at hs'; injection hs' with hs'; injection hs' with q1 q2 q3
          subst q1; subst q2; subst q3
          exact ⟨by simp, fun _ => ⟨by simp, .inl ⟨hnl1, rfl, rfl⟩⟩⟩
      · have h0 : 0 < new.length := List.length_pos_iff.2 hne
        exact grow none 0 #[] (fun w' _ => by simp [Builtin.firstCells]) (fun i hi => by simp at hi) (by simp) (by simp; omega) hne
    · obtain ⟨cells, elem, b1, b2, b3, b4, b5⟩ := h.hr.back _ _ _ _ hid hbk
      simp only [Nat.zero_mul] at hcap ⊢
      have hcapK : cap = c.K id := by omega
      subst hlen
      by_cases hroom : es.length + new.length ≤ cap
      · have hmul : es.length * sz' + new.length * sz' ≤ c.K id * sz' := by
          rw [← Nat.add_mul]; exact Nat.mul_le_mul_right sz' (by omega)
        have hal : arr.toList.length = new.length * sz' := by simpa using l3
        have hst := run_storeCells_at P (c.ι id) (es.length * sz') elem arr.toList 0 cells c.w b1 (by rw [hal, b2]; omega) l5
        simp only [Nat.add_zero] at hst
        generalize hnewc : (cells.toList.take (es.length * sz') ++ arr.toList ++ cells.toList.drop (es.length * sz' + arr.toList.length)).toArray = cells' at hst
        have hsplit : cells' = (cells.extract 0 (es.length * sz')) ++ arr ++ (cells.extract (es.length * sz' + arr.size) cells.size) := by
          rw [← hnewc]; apply Array.ext'; simp [List.take_of_length_le]
        have hos : (cells.extract 0 (es.length * sz')).size = es.length * sz' := by simp; omega
        have hro : Row c sz' es (cells.extract 0 (es.length * sz')) := by
          intro i hi
          obtain ⟨g1, g2⟩ := b5 i hi
          refine ⟨g1, fun j hj => ?_⟩
          obtain ⟨q, hq, hv⟩ := g2 j hj
          refine ⟨q, ?_, hv⟩
          have := Nat.mul_le_mul_right sz' (show i + 1 ≤ es.length by omega)
          rw [Nat.add_mul, Nat.one_mul] at this
          rw [Array.getElem?_extract]
          rw [if_pos (by omega), Nat.zero_add]; exact hq
        have hsize : cells'.size = cells.size := by rw [hsplit]; simp; omega
        obtain ⟨dd, d1, d2, d3, d4, d5, d6, d7⟩ := upd h id (c.ι id) (c.K id) nl sz' (es ++ new) cells' elem (c.w.setRow (c.ι id) cells') (c.H.set id (.live nl sz' (es ++ new)))
          (by simp) (by simp [hidlt]) (fun j hj => by left; rw [List.getElem?_set_ne (fun q => hj q.symm)]) (by rw [hid]; simp)
          (fun nl0 sz0 es0 h0 => by
            rw [hid] at h0; injection h0 with h0; injection h0 with q1 q2 q3
            subst q1; subst q2; subst q3
            exact ⟨rfl, rfl, by simp, fun _ => ⟨hbk, rfl, rfl⟩⟩)
          (by rintro ⟨q1, q⟩; simp at q; exact hbk ⟨q1, q.1⟩) (Same.setRow b1) (by simp) (fun b _ hne => setRow_other c.w _ b _ hne)
          (setRow_heap c.w _ cells cells' elem _ b1) (.inr ⟨nl, sz', es, hid, hbk, rfl⟩) (by rw [hsize, b2]) (by rw [List.length_append]; omega) (by rw [hsplit]; exact extract_elems hro hos l4 l3)
        refine ⟨dd, d2, ⟨d3, d4, d5⟩, .slice (some ⟨c.ι id, 0, none⟩) (es.length + new.length) cap, ?_, .own _ _ _ _ _ ⟨by rw [Has, d2]; simp [hidlt], ⟨_, _, rfl⟩, fun nl' sz'' es'' hs' => ?_⟩⟩
        · rw [run_app_room (P := P) (ty := ty) ht hu hd hsz c.w (l1 c.w) (l2 c.w rfl) hroom hst, d1]
        · rw [d2] at hs'
          simp [hidlt] at hs'
          obtain ⟨rfl, rfl, rfl⟩ := hs'
          refine ⟨by simp, fun _ => ⟨by simp, .inr ⟨by rintro ⟨q1, q⟩; simp at q; exact hbk ⟨q1, q.1⟩, cap, by simp [d6], by simp [d7, hcapK]⟩⟩⟩
      · by_cases hne : new = []
        · subst hne; simp at hroom; omega
        · have hfo : ∀ w' : World, w'.heap = c.w.heap → (Builtin.firstCells sz' es.length (.slice (some ⟨c.ι id, 0, none⟩) es.length cap)).run P w' = .ok (cells.extract 0 (es.length * sz')) w' := by
            intro w' hw
            simp only [Builtin.firstCells]
            have hmul : es.length * sz' ≤ c.K id * sz' := Nat.mul_le_mul_right sz' b3
            rw [run_loadCells (P := P) w' ⟨c.ι id, 0, none⟩ (es.length * sz') (fun q => (cells[q]?).getD undef) (fun q hq => by
              rw [add_eq, Nat.zero_add]
              simp only [World.cell?, hw, b1]
              have : q < cells.size := by rw [b2]; omega
              simp [this])]
            congr 1
            apply Array.ext
            · simp; omega
            · intro q h1 h2
              simp at h1 h2
              have : q < cells.size := by omega
              simp [this]
          have hro : Row c sz' es (cells.extract 0 (es.length * sz')) := by
            intro i hi
            obtain ⟨g1, g2⟩ := b5 i hi
            refine ⟨g1, fun j hj => ?_⟩
            obtain ⟨q, hq, hv⟩ := g2 j hj
            refine ⟨q, ?_, hv⟩
            have := Nat.mul_le_mul_right sz' (show i + 1 ≤ es.length by omega)
            rw [Nat.add_mul, Nat.one_mul] at this
            have hmul : es.length * sz' ≤ c.K id * sz' := Nat.mul_le_mul_right sz' b3
            rw [Array.getElem?_extract]
            rw [if_pos (by omega), Nat.zero_add]; exact hq
          exact grow _ cap _ hfo hro (by
            have hmul : es.length * sz' ≤ c.K id * sz' := Nat.mul_le_mul_right sz' b3
            simp; omega) (by omega) hne
  · simp at ha

end
end Go.Am
