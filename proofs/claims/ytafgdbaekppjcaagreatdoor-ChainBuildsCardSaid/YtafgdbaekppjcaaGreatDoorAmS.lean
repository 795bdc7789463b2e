/- All operations that make or change memory, joined. Condition: the state's relation. -/
import Derived.Test.YtafgdbaekppjcaaGreatDoorAmMa
set_option linter.unusedSectionVars false
set_option linter.unusedVariables false
set_option linter.unusedSimpArgs false
namespace Go.Am
section
variable {P : Program} {F : Fo} {c : Ctx}
theorem does_value {a : Act} {o : Oper} {v : AV} {H' : List Obj} {s : Sem Value} (he : execOp a.eval o = (do pure (.value (← s))))
    (h : ∃ d : Ctx, d.H = H' ∧ Went F c d ∧ ∃ v', s.run P c.w = .ok v' d.w ∧ V d v v') : Does P F c a o v H' := by
  obtain ⟨d, h1, h2, v', h3, h4⟩ := h
  exact ⟨d, h1, h2, .inl ⟨v', by rw [he]; simp [h3], h4⟩⟩
theorem bytes_info {t : TypeId} {b : Nat} (h : bytesOf P t = some b) (w : World) : ∃ i, (typeInfo t).run P w = .ok i w ∧ i.bytes = b := by
  unfold bytesOf at h
  split at h
  · rename_i i hi; injection h with h; exact ⟨i, by simp [typeInfo, hi], h⟩
  · simp at h
theorem newslice_Row {zv : Array Value} {z : List AV} {sz n : Nat} (hPV : PV c z zv) (hlen : z.length = sz) (arr : Array Value)
    (harr : n * sz ≠ 0 → arr = (Array.range (n * sz)).map (zv[· % zv.size]!)) (h0 : n * sz = 0 → arr.size = 0) :
    Row c sz (List.replicate n z) arr ∧ arr.size = n * sz := by
  by_cases h : n * sz = 0
  · refine ⟨fun i hi => ?_, by rw [h0 h, h]⟩
    simp at hi
    have hz : sz = 0 := by
      rcases Nat.mul_eq_zero.1 h with e | e
      · omega
      · exact e
    simp only [List.getElem_replicate]
    exact ⟨hlen, fun j hj => by omega⟩
  · rw [harr h]
    exact ⟨range_mod_Row zv z sz n hPV hlen, by simp⟩
theorem wr_sound (h : SR F c) {G : Nat → List AV} {t : List AV} {a : Act} (ht : TR c t a.tmps) (hg : Glob c G) (o : Oper) {v : AV} {H' : List Obj} {pl : Nat} (hpl : Room c.H pl)
    (hw : evalW G t c.H pl (compOp P o) = some (v, H')) : Does P F c a o v H' := by
  have E := fun x => ev_V ht hg x
  unfold compOp at hw
  cases hop : o.op with
  | box ty x =>
    simp only [hop, evalW] at hw
    split at hw
    case isFalse => simp at hw
    rename_i hone
    simp only [Option.some.injEq, Prod.mk.injEq] at hw
    obtain ⟨rfl, rfl⟩ := hw
    obtain ⟨hPV, _⟩ := cells_V (E x) hone
    obtain ⟨d, d1, d2, d3, d4⟩ := made_var h hpl _ _ ty hPV
    refine does_value (s := Instr.box ty (a.eval x)) (by simp only [execOp, hop]) ⟨d, d2, d3, _, ?_, d4⟩
    rw [d1]
    simp [Instr.box, newVar, run_newRow]
  | alloc ty =>
    simp only [hop] at hw
    split at hw
    case h_2 => simp [evalW] at hw
    rename_i z hz
    simp only [evalW] at hw
    split at hw
    case isFalse => simp at hw
    rename_i hone
    simp only [Option.some.injEq, Prod.mk.injEq] at hw
    obtain ⟨rfl, rfl⟩ := hw
    obtain ⟨i, zv, hi, hzv, rfl⟩ := zeroOf_some hz
    obtain ⟨d, d1, d2, d3, d4⟩ := made_var h hpl _ _ ty (zero_PV zv)
    refine does_value (s := Instr.alloc ty true (.tuple #[])) (by simp only [execOp, hop]) ⟨d, d2, d3, _, ?_, d4⟩
    rw [d1]
    simp [Instr.alloc, newVar, run_newRow, run_zero hi hzv]
  | buildSlice ty len parts =>
    simp only [hop] at hw
    split at hw
    case h_2 => simp [evalW] at hw
    rename_i e hu
    split at hw
    case h_2 => simp [evalW] at hw
    rename_i sz z hsz hz
    split at hw
    · rename_i hdeep
      obtain ⟨rfl, _⟩ := hdeep
      simp only [evalW] at hw
      split at hw
      case isFalse => simp at hw
      rename_i hc
      obtain ⟨hzl, hone, hlim⟩ := hc
      split at hw
      case h_2 => simp at hw
      rename_i es hes
      split at hw
      case isFalse => simp at hw
      rename_i hbl
      simp only [Option.some.injEq, Prod.mk.injEq] at hw
      obtain ⟨rfl, rfl⟩ := hw
      obtain ⟨i, zv, hi, hzv, rfl⟩ := zeroOf_some hz
      have hel : es.length = len := by rw [fillS_length 1 _ _ _ hes]; simp
      have hlim' : ¬ (len * 1 > 2 ^ 24) := by omega
      obtain ⟨hrow, hsize⟩ := newslice_Row (c := c) (sz := 1) (n := len) (zero_PV zv) hzl
        ((Array.range (len * 1)).map ((if len * 1 = 0 then #[] else zv.cells)[· % (if len * 1 = 0 then (#[] : Array Value) else zv.cells).size]!))
        (fun hne => by rw [if_neg hne]) (fun h0 => by rw [Array.size_map, Array.size_range]; exact h0)
      obtain ⟨acc, h1, h2, h3⟩ := fillS_Row (c := c) 1 (parts.toList.map fun (x : Nat × Operand) => (x.1, (cx x.2).ev G t)) (parts.toList.map fun (x : Nat × Operand) => (x.1, a.eval x.2)) _ _ es hrow
        (by simp [hsize]) (by simp) (fun i hi hj => ⟨by simp, by simp only [List.getElem_map]; exact E _⟩) (by simpa [Function.comp_def] using hes)
      obtain ⟨d, d1, d2, d3, d4⟩ := made_ro h 1 len es acc e (fun i j hi hj => bels_get (belss_get hbl i hi) j hj) (by omega) h2
      refine does_value (s := Instr.buildSlice ty len (parts.map fun (i, x) => (i, a.eval x))) (by simp only [execOp, hop]) ⟨d, d2, d3, _, ?_, by rw [hel] at d4; exact d4⟩
      rw [d1]
      have hpl : (parts.map fun (i, x) => (i, a.eval x)).toList = parts.toList.map fun (x : Nat × Operand) => (x.1, a.eval x.2) := by simp
      unfold Instr.buildSlice
      simp only [Sem.run_bind, run_under hu, Result.andThen_ok, run_szOf hsz, Sem.run_ite, hlim', if_false, hpl]
      by_cases h0 : len * 1 = 0
      · simp only [h0, if_true, Sem.run_pure, Result.andThen_ok] at h1 ⊢
        rw [h1]
        simp [run_newRow]
      · simp only [h0, if_false, run_zero hi hzv, Result.andThen_ok, Sem.run_pure] at h1 ⊢
        rw [h1]
        simp [run_newRow]
    · skip
      simp only [evalW] at hw
      split at hw
      case isFalse => simp at hw
      rename_i hc
      obtain ⟨hzl, hone, hlim⟩ := hc
      split at hw
      case h_2 => simp at hw
      rename_i es hes
      simp only [Option.some.injEq, Prod.mk.injEq] at hw
      obtain ⟨rfl, rfl⟩ := hw
      obtain ⟨i, zv, hi, hzv, rfl⟩ := zeroOf_some hz
      have hel : es.length = len := by rw [fillS_length sz _ _ _ hes]; simp
      have hlim' : ¬ (len * sz > 2 ^ 24) := by omega
      obtain ⟨hrow, hsize⟩ := newslice_Row (c := c) (sz := sz) (n := len) (zero_PV zv) hzl
        ((Array.range (len * sz)).map ((if len * sz = 0 then #[] else zv.cells)[· % (if len * sz = 0 then (#[] : Array Value) else zv.cells).size]!))
        (fun hne => by simp [hne]) (fun h0 => by simp [h0])
      obtain ⟨acc, h1, h2, h3⟩ := fillS_Row (c := c) sz (parts.toList.map fun (x : Nat × Operand) => (x.1, (cx x.2).ev G t)) (parts.toList.map fun (x : Nat × Operand) => (x.1, a.eval x.2)) _ _ es hrow
        (by simp [hsize]) (by simp) (fun i hi hj => ⟨by simp, by simp only [List.getElem_map]; exact E _⟩) (by simpa [Function.comp_def] using hes)
      obtain ⟨d, d1, d2, d3, d4⟩ := made_slice h hpl len sz es acc e (by rw [h3, hsize]) (by omega) h2
      refine does_value (s := Instr.buildSlice ty len (parts.map fun (i, x) => (i, a.eval x))) (by simp only [execOp, hop]) ⟨d, d2, d3, _, ?_, by rw [hel] at d4; exact d4⟩
      rw [d1]
      have hpl : (parts.map fun (i, x) => (i, a.eval x)).toList = parts.toList.map fun (x : Nat × Operand) => (x.1, a.eval x.2) := by simp
      unfold Instr.buildSlice
      simp only [Sem.run_bind, run_under hu, Result.andThen_ok, run_szOf hsz, Sem.run_ite, hlim', if_false, hpl]
      by_cases h0 : len * sz = 0
      · simp only [h0, if_true, Sem.run_pure, Result.andThen_ok] at h1 ⊢
        rw [h1]
        simp [run_newRow]
      · simp only [h0, if_false, run_zero hi hzv, Result.andThen_ok, Sem.run_pure] at h1 ⊢
        rw [h1]
        simp [run_newRow]
  | store ty p x =>
    simp only [hop] at hw
    split at hw
    case h_2 => simp [evalW] at hw
    rename_i n hn
    simp only [evalW] at hw
    split at hw
    case h_2 => simp at hw
    rename_i H2 hs
    simp only [Option.some.injEq, Prod.mk.injEq] at hw
    obtain ⟨rfl, rfl⟩ := hw
    obtain ⟨d, d1, d2, d3⟩ := store_V h hn (E p) (E x) hs
    refine ⟨d, d1, d2, .inr ⟨?_, rfl⟩⟩
    simp only [execOp, hop]
    simp [d3]
  | makeSlice ty l k =>
    simp only [hop] at hw
    split at hw
    case h_2 => simp [evalW] at hw
    rename_i e hu
    split at hw
    case h_2 => simp [evalW] at hw
    rename_i sz z b hsz hz hb
    simp only [evalW] at hw
    split at hw
    case h_2 => simp at hw
    rename_i n m hl hk
    split at hw
    case isFalse => simp at hw
    rename_i hc
    obtain ⟨rfl, h0, hbb, hn40, hzl, hone⟩ := hc
    simp only [Option.some.injEq, Prod.mk.injEq] at hw
    obtain ⟨rfl, rfl⟩ := hw
    obtain ⟨i, zv, hi, hzv, rfl⟩ := zeroOf_some hz
    have hel := E l
    have hek := E k
    rw [hl] at hel; rw [hk] at hek
    generalize hlv : a.eval l = lv at hel
    generalize hkv : a.eval k = kv at hek
    cases hel; cases hek
    have hwrap : IntKind.i64.wrap n = n := by
      have h40 : (2:Int)^40 = 1099511627776 := by decide
      unfold IntKind.wrap
      have e1 : (2 : Int) ^ IntKind.i64.bits = 18446744073709551616 := by decide
      have e2 : (2 : Int) ^ (IntKind.i64.bits - 1) = 9223372036854775808 := by decide
      simp only [e1, e2, IntKind.signed]
      have e3 : n % 18446744073709551616 = n := Int.emod_eq_of_lt h0 (by omega)
      rw [e3, if_neg]
      simp only [Bool.true_and, decide_eq_true_eq]
      omega
    obtain ⟨ti, hti, htb⟩ := bytes_info hb c.w
    obtain ⟨hrow, hsize⟩ := newslice_Row (c := c) (sz := sz) (n := n.toNat) (zero_PV zv) hzl
      ((Array.range (n.toNat * sz)).map ((if n.toNat * sz = 0 then #[] else zv.cells)[· % (if n.toNat * sz = 0 then (#[] : Array Value) else zv.cells).size]!))
      (fun hne => by simp [hne]) (fun h0 => by simp [h0])
    obtain ⟨d, d1, d2, d3, d4⟩ := made_slice h hpl n.toNat sz (List.replicate n.toNat (zv.cells.toList.map simple)) _ e hsize (by simp) hrow
    rw [List.length_replicate] at d4
    refine does_value (s := Instr.makeSlice ty (a.eval l) (a.eval k)) (by simp only [execOp, hop]) ⟨d, d2, d3, _, ?_, d4⟩
    rw [d1, hlv, hkv]
    have hlim : ¬ ((b : Int) * n > 2 ^ 48) := by
      have h48 : (2:Int)^48 = 281474976710656 := by decide
      have h40 : (2:Int)^40 = 1099511627776 := by decide
      rw [Int.mul_comm]; omega
    have hneg : ¬ n < 0 := by omega
    unfold Instr.makeSlice
    simp only [Sem.run_bind, run_under hu, Result.andThen_ok, asInt, asIntOf, Sem.run_pure, hti, htb, hwrap]
    have hcond : ((decide (n < 0) || decide ((b : Int) * n > 2 ^ 48)) || decide (n < 0) || decide (n > n)) = false := by
      simp [hneg]; omega
    simp only [Sem.run_ite]
    rw [if_neg (by simp only [Bool.not_eq_true]; simpa using hcond)]
    simp only [Sem.run_bind, run_askRoom, Result.andThen_ok, run_szOf hsz]
    by_cases hz0 : n.toNat * sz = 0
    · simp only [hz0, if_true, Sem.run_bind, Sem.run_pure, Result.andThen_ok, run_newRow]
    · simp only [hz0, if_false, Sem.run_bind, run_zero hi hzv, Result.andThen_ok, Sem.run_pure, run_newRow]
  | call cl =>
    simp only [hop] at hw
    split at hw
    · simp [evalW] at hw
    · simp [evalW] at hw
    · rename_i hcal
      split at hw
      case h_2 => simp [evalW] at hw
      rename_i ty x hty hx
      split at hw
      · simp [evalW] at hw
      · simp [evalW] at hw
      · simp [evalW] at hw
      · rename_i kt et hu
        simp only [evalW] at hw
        split at hw
        case h_2 => simp at hw
        rename_i r hr
        simp only [Option.some.injEq, Prod.mk.injEq] at hw
        obtain ⟨rfl, rfl⟩ := hw
        unfold mlen at hr
        split at hr
        case h_2 => simp at hr
        rename_i es he
        injection hr with hr; subst hr
        have hex : execOp a.eval o = (do pure (.value (← Builtin.len_ cl.argTypes o.type (cl.args.map a.eval)))) := by
          simp only [execOp, hop, resolve, hcal]
          rfl
        have hargs' : cl.args.map a.eval = #[a.eval x] := by apply Array.ext'; simp [hx]
        refine does_value hex ⟨c, rfl, Went.refl h, _, ?_, .int _ _⟩
        rw [hargs']
        rcases entries_V h (E x) he with ⟨e1, rfl⟩ | ⟨id, b, l, q, _, e1, rfl, hid, hb, hl⟩
        · simp [Builtin.len_, hty, e1, run_under hu, goInt]
        · have hls : l.size = es.length := by simpa using hl.1
          simp [Builtin.len_, hty, e1, run_under hu, goInt, getObj, Sem.run, hb, hls]
      · simp [evalW] at hw
    · rename_i hcal
      split at hw
      case h_2 => simp [evalW] at hw
      rename_i ty u s x hty hut hargs
      have hex : execOp a.eval o = (do pure (.value (← Builtin.append_ cl.argTypes o.type (cl.args.map a.eval)))) := by
        simp only [execOp, hop, resolve, hcal]
        rfl
      have hargs' : cl.args.map a.eval = #[a.eval s, a.eval x] := by apply Array.ext'; simp [hargs]
      have happ : ∀ (e : TypeId) (d : TypeDesc) (sz bytes : Nat) (z : List AV), P.underlying ty = some (.slice e) → P.underlying u = some d → ((∃ e', d = .slice e') ∨ d = .string) →
          szOf P e = some sz → bytesOf P e = some bytes → zeroOf P e = some z → z.length = sz → append c.H pl sz bytes ((cx s).ev G t) ((cx x).ev G t) = some (v, H') → Does P F c a o v H' := by
        intro e d sz bytes z hu1 hu2 hd hsz hby hz hzl happ
        obtain ⟨dd, e1, e2, v', e3, e4⟩ := append_V (ty := o.type) h hpl hu1 hu2 hd hsz hby hz hzl (E s) (E x) happ
        refine does_value (s := Builtin.append_ cl.argTypes o.type (cl.args.map a.eval)) hex ⟨dd, e1, e2, v', ?_, e4⟩
        rw [hargs', ← e3]
        simp only [Builtin.append_, hty, hut, List.getElem?_toArray, List.getElem?_cons_zero, List.getElem?_cons_succ]
      split at hw
      · rename_i e e' hu1 hu2
        split at hw
        case h_2 => simp [evalW] at hw
        rename_i sz b z hsz hb hz
        split at hw
        case isFalse => simp [evalW] at hw
        rename_i hzl
        simp only [evalW] at hw
        exact happ e _ sz b z hu1 hu2 (.inl ⟨e', rfl⟩) hsz hb hz hzl hw
      · rename_i e hu1 hu2
        split at hw
        case h_2 => simp [evalW] at hw
        rename_i sz b z hsz hb hz
        split at hw
        case isFalse => simp [evalW] at hw
        rename_i hzl
        simp only [evalW] at hw
        exact happ e _ sz b z hu1 hu2 (.inr rfl) hsz hb hz hzl hw
      · rename_i e kd hu1 hu2
        split at hw
        case h_2 => simp [evalW] at hw
        rename_i sz b z hsz hb hz
        simp only [evalW] at hw
        split at hw
        case h_2 => simp at hw
        rename_i m hs hm
        split at hw
        case isFalse => simp at hw
        rename_i hc
        obtain ⟨h0, hbb, hm40, hzl, hone⟩ := hc
        simp only [Option.some.injEq, Prod.mk.injEq] at hw
        obtain ⟨rfl, rfl⟩ := hw
        obtain ⟨i, zv, hi, hzv, rfl⟩ := zeroOf_some hz
        have hsv := E s
        have hxv := E x
        rw [hs] at hsv; rw [hm] at hxv
        generalize hsv' : a.eval s = sv at hsv hargs'
        generalize hxv' : a.eval x = xv at hxv hargs'
        cases hsv; cases hxv
        obtain ⟨n, rfl⟩ : ∃ n : Nat, m = n := ⟨m.toNat, by omega⟩
        have h40 : (2:Int)^40 = 1099511627776 := by decide
        have h40' : (2:Nat)^40 = 1099511627776 := by decide
        have hzs : zv.cells.size = sz := by simpa using hzl
        obtain ⟨cap, rest, q, hcap, hrest, hrun⟩ := run_app_zero (P := P) (ty := o.type) hu1 hu2 hsz hb hi hzv hzs (m := n) c.w (by omega)
          (by have : ((n * b : Nat) : Int) = (n : Int) * b := by simp
              omega) (by omega)
        obtain ⟨hrow, hsize⟩ := newslice_Row (c := c) (sz := sz) (n := n) (zero_PV zv) hzl (if n * sz = 0 then #[] else Builtin.zeroCells zv.cells n)
          (fun hne => by rw [if_neg hne]; unfold Builtin.zeroCells; rw [hzs]) (fun h0 => by simp [h0])
        obtain ⟨hS, hVV, hF⟩ := h.drawn q
        have hrow2 : Row c sz ([] ++ List.replicate n (zv.cells.toList.map simple)) (#[] ++ (if n * sz = 0 then #[] else Builtin.zeroCells zv.cells n) ++ rest) :=
          extract_elems (fun i hi => by simp at hi) (by simp) hrow (by simpa using hsize)
        simp only [List.nil_append, Array.empty_append] at hrow2
        obtain ⟨dd, d1, d2, d3, d4⟩ := made_slice hS hpl cap sz (List.replicate n (zv.cells.toList.map simple)) ((if n * sz = 0 then #[] else Builtin.zeroCells zv.cells n) ++ rest) e (by
          rw [Array.size_append, hsize, hrest, ← Nat.add_mul]; congr 1; omega) (by simpa using hcap) (Row.went hrow2 hVV)
        rw [List.length_replicate] at d4
        simp only [Int.toNat_natCast]
        refine does_value (s := Builtin.append_ cl.argTypes o.type (cl.args.map a.eval)) hex ⟨dd, d2, Went.trans ⟨hS, hVV, hF⟩ d3, _, ?_, d4⟩
        rw [hargs', d1]
        have := hrun
        simp only [Builtin.append_, hty, hut, List.getElem?_toArray, List.getElem?_cons_zero, List.getElem?_cons_succ] at this ⊢
        exact this
      · simp [evalW] at hw
    · simp [evalW] at hw
    · simp [evalW] at hw
    · split at hw
      · split at hw
        · simp [evalW] at hw
        · simp [evalW] at hw
      · simp [evalW] at hw
    · simp [evalW] at hw
  | binOp op ty x y yt =>
    simp only [hop] at hw
    split at hw
    · unfold compEq at hw; (repeat' split at hw) <;> simp [evalW] at hw
    · unfold compEq at hw; (repeat' split at hw) <;> simp [evalW] at hw
    · simp [evalW] at hw
  | makeMap ty r =>
    cases r with
    | some r => simp [hop, evalW] at hw
    | none =>
      simp only [hop, evalW, Option.some.injEq, Prod.mk.injEq] at hw
      obtain ⟨rfl, rfl⟩ := hw
      obtain ⟨d, d1, d2, d3, d4, _⟩ := madeS h hpl (.mp []) rfl (.map #[] 0) (by simp) (fun d _ => ⟨#[], 0, rfl, rfl, fun i hi => by simp at hi⟩)
      refine does_value (s := Instr.makeMap ty ((none : Option Operand).map a.eval)) (by simp only [execOp, hop]) ⟨d, d2, d3, _, ?_, .mp _ _ d4⟩
      rw [d1]; rfl
  | lookup ty m x ok =>
    simp only [hop] at hw
    split at hw
    case h_2 => simp [evalW] at hw
    rename_i kt et ht
    split at hw
    case h_2 => simp [evalW] at hw
    rename_i k z hk hz
    obtain ⟨i, hi, hz⟩ : ∃ i, P.info? et = some i ∧ i.zero = some z := by
      cases hi : P.info? et with
      | none => rw [hi] at hz; simp at hz
      | some i => rw [hi] at hz; exact ⟨i, rfl, hz⟩
    simp only [evalW] at hw
    split at hw
    case h_2 => simp at hw
    rename_i r hr
    simp only [Option.some.injEq, Prod.mk.injEq] at hw
    obtain ⟨rfl, rfl⟩ := hw
    obtain ⟨v', e1, e2⟩ := mget_V h ht hk hi hz (E m) (E x) hr
    exact does_value (s := Instr.lookup ty (a.eval m) (a.eval x) ok) (by simp only [execOp, hop]) ⟨c, rfl, Went.refl h, v', e1, e2⟩
  | mapUpdate ty m x u =>
    simp only [hop] at hw
    split at hw
    case h_2 => simp [evalW] at hw
    rename_i kt et ht
    split at hw
    case h_2 => simp [evalW] at hw
    rename_i k hk
    simp only [evalW] at hw
    split at hw
    case h_2 => simp at hw
    rename_i H2 hs
    simp only [Option.some.injEq, Prod.mk.injEq] at hw
    obtain ⟨rfl, rfl⟩ := hw
    obtain ⟨d, d1, d2, d3⟩ := mset_V h ht hk (E m) (E x) (E u) hs
    refine ⟨d, d1, d2, .inr ⟨?_, rfl⟩⟩
    simp only [execOp, hop]
    simp [d3]
  | range ty x =>
    simp only [hop] at hw
    split at hw
    case h_2 => simp [evalW] at hw
    rename_i hu
    simp only [evalW] at hw
    split at hw
    case h_2 => simp at hw
    rename_i s hs
    simp only [Option.some.injEq, Prod.mk.injEq] at hw
    obtain ⟨rfl, rfl⟩ := hw
    have hx := E x
    rw [hs] at hx
    generalize hxv : a.eval x = xv at hx
    cases hx
    obtain ⟨d, d1, d2, d3, d4, _⟩ := madeS h hpl (.it s 0) rfl (.stringIter ⟨s.toArray⟩ 0) (by simp) (fun d _ => rfl)
    refine does_value (s := Instr.range ty (a.eval x)) (by simp only [execOp, hop]) ⟨d, d2, d3, _, ?_, .itr _ _ d4⟩
    rw [d1, hxv]
    exact run_range_string c.w ty _ hu
  | next x b =>
    cases b with
    | false => simp [hop, evalW] at hw
    | true =>
      simp only [hop, evalW] at hw
      obtain ⟨d, d1, d2, v', e1, e2⟩ := nxt_V (P := P) (ty := o.type) h (E x) hw
      exact does_value (s := Instr.next (a.eval x) true o.type) (by simp only [execOp, hop]) ⟨d, d1, d2, v', e1, e2⟩
  | convert src dst x =>
    simp only [hop] at hw
    split at hw
    · simp [evalW] at hw
    · simp [evalW] at hw
    · rename_i e hs hd
      split at hw
      case h_2 => simp [evalW] at hw
      rename_i he
      simp only [evalW] at hw
      split at hw
      case h_2 => simp at hw
      rename_i r hr
      simp only [Option.some.injEq, Prod.mk.injEq] at hw
      obtain ⟨rfl, rfl⟩ := hw
      obtain ⟨v', e1, e2⟩ := b2s_V (P := P) h (E x) hr
      refine does_value (s := convert src dst (a.eval x)) (by simp only [execOp, hop]) ⟨c, rfl, Went.refl h, v', ?_, e2⟩
      have hsl : ∃ p l k, a.eval x = .slice p l k := by
        generalize a.eval x = xv at e1
        cases xv <;> first | exact ⟨_, _, _, rfl⟩ | (simp [Conv.bytesToString] at e1)
      obtain ⟨p, l, k, hp⟩ := hsl
      rw [← e1, hp]
      unfold convert
      simp only [Sem.run_bind, run_under hs, run_under hd, Result.andThen_ok]
      cases p <;> simp only [Sem.run_bind, run_under he, Result.andThen_ok]
    · simp [evalW] at hw
  | makeFunc fn first cap => cases fn <;> simp only [hop] at hw <;> (repeat' split at hw) <;> simp [evalW] at hw
  | slice ty x lo hi mx => cases mx <;> simp only [hop] at hw <;> (repeat' split at hw) <;> simp [evalW] at hw
  | _ => simp only [hop] at hw; (repeat' split at hw) <;> simp [evalW] at hw
end
end Go.Am
