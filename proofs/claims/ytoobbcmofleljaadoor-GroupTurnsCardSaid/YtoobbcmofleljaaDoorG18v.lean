/- The resolved functions are the program's. No condition. -/
import Derived.Test.YtoobbcmofleljaaDoorG18E
import Derived.Test.YtoobbcmofleljaaDoorG18k0
import Derived.Test.YtoobbcmofleljaaDoorAmZ5
namespace G18
open Go.Proofs Go Go.Pl Go.Am Go.Am.As
theorem ok_one {f : Nat} {rf r : RF} {fn : Func} {hs : List (Nat × Hint)} (h : some r = some rf) (h1 : Tryd.prog.funcs[f]? = some fn) (h2 : compF Tryd.prog hs r.nargs fn = some r) : ∃ fn hs, Tryd.prog.funcs[f]? = some fn ∧ compF Tryd.prog hs rf.nargs fn = some rf := by
  injection h with h; subst h; exact ⟨fn, hs, h1, h2⟩
theorem fns_ok : ∀ (f : Nat) (rf : RF), L18.fns f = some rf → ∃ fn hs, Tryd.prog.funcs[f]? = some fn ∧ compF Tryd.prog hs rf.nargs fn = some rf
  | 6, _, h => ok_one h Tryd.func6 L18.k6
  | 11, _, h => ok_one h Tryd.func11 L18.k11
  | 12, _, h => ok_one h Tryd.func12 L18.k12
  | 13, _, h => ok_one h Tryd.func13 L18.k13
  | 16, _, h => ok_one h Tryd.func16 L18.k16
  | 18, _, h => ok_one h Tryd.func18 L18.k18
  | 19, _, h => ok_one h Tryd.func19 L18.k19
  | 21, _, h => ok_one h Tryd.func21 L18.k21
  | 22, _, h => ok_one h Tryd.func22 L18.k22
  | 23, _, h => ok_one h Tryd.func23 L18.k23
  | 34, _, h => ok_one h Tryd.func34 L18.k34
  | 35, _, h => ok_one h Tryd.func35 L18.k35
  | 36, _, h => ok_one h Tryd.func36 L18.k36
  | 37, _, h => ok_one h Tryd.func37 L18.k37
  | 38, _, h => ok_one h Tryd.func38 L18.k38
  | 39, _, h => ok_one h Tryd.func39 L18.k39
  | 41, _, h => ok_one h Tryd.func41 L18.k41
  | 42, _, h => ok_one h Tryd.func42 L18.k42
  | 43, _, h => ok_one h Tryd.func43 L18.k43
  | 44, _, h => ok_one h Tryd.func44 L18.k44
  | 46, _, h => ok_one h Tryd.func46 L18.k46
  | 47, _, h => ok_one h Tryd.func47 L18.k47
  | 48, _, h => ok_one h Tryd.func48 L18.k48
  | 52, _, h => ok_one h Tryd.func52 L18.k52
  | 53, _, h => ok_one h Tryd.func53 L18.k53
  | 58, _, h => ok_one h Tryd.func58 L18.k58
  | 59, _, h => ok_one h Tryd.func59 L18.k59
  | 60, _, h => ok_one h Tryd.func60 L18.k60
  | 61, _, h => ok_one h Tryd.func61 L18.k61
  | 62, _, h => ok_one h Tryd.func62 L18.k62
  | 63, _, h => ok_one h Tryd.func63 L18.k63
  | 65, _, h => ok_one h Tryd.func65 L18.k65
  | 66, _, h => ok_one h Tryd.func66 L18.k66
  | 68, _, h => ok_one h Tryd.func68 L18.k68
  | 71, _, h => ok_one h Tryd.func71 L18.k71
  | 72, _, h => ok_one h Tryd.func72 L18.k72
  | 73, _, h => ok_one h Tryd.func73 L18.k73
  | 74, _, h => ok_one h Tryd.func74 L18.k74
  | 75, _, h => ok_one h Tryd.func75 L18.k75
  | 76, _, h => ok_one h Tryd.func76 L18.k76
  | 77, _, h => ok_one h Tryd.func77 L18.k77
  | 78, _, h => ok_one h Tryd.func78 L18.k78
  | 79, _, h => ok_one h Tryd.func79 L18.k79
  | 80, _, h => ok_one h Tryd.func80 L18.k80
  | 81, _, h => ok_one h Tryd.func81 L18.k81
  | 82, _, h => ok_one h Tryd.func82 L18.k82
  | 83, _, h => ok_one h Tryd.func83 L18.k83
  | 84, _, h => ok_one h Tryd.func84 L18.k84
  | 85, _, h => ok_one h Tryd.func85 L18.k85
  | 86, _, h => ok_one h Tryd.func86 L18.k86
  | 0, _, h => nomatch h
  | 1, _, h => nomatch h
  | 2, _, h => nomatch h
  | 3, _, h => nomatch h
  | 4, _, h => nomatch h
  | 5, _, h => nomatch h
  | 7, _, h => nomatch h
  | 8, _, h => nomatch h
  | 9, _, h => nomatch h
  | 10, _, h => nomatch h
  | 14, _, h => nomatch h
  | 15, _, h => nomatch h
  | 17, _, h => nomatch h
  | 20, _, h => nomatch h
  | 24, _, h => nomatch h
  | 25, _, h => nomatch h
  | 26, _, h => nomatch h
  | 27, _, h => nomatch h
  | 28, _, h => nomatch h
  | 29, _, h => nomatch h
  | 30, _, h => nomatch h
  | 31, _, h => nomatch h
  | 32, _, h => nomatch h
  | 33, _, h => nomatch h
  | 40, _, h => nomatch h
  | 45, _, h => nomatch h
  | 49, _, h => nomatch h
  | 50, _, h => nomatch h
  | 51, _, h => nomatch h
  | 54, _, h => nomatch h
  | 55, _, h => nomatch h
  | 56, _, h => nomatch h
  | 57, _, h => nomatch h
  | 64, _, h => nomatch h
  | 67, _, h => nomatch h
  | 69, _, h => nomatch h
  | 70, _, h => nomatch h
  | n + 87, _, h => nomatch h
theorem env_ok : EnvOk Tryd.prog E0 := ⟨fns_ok, fun g => by show AV.bels 0 (if g = 0 then _ else _) = true; split <;> rfl, fun _ _ _ h => nomatch h⟩
end G18
