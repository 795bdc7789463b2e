/- The resolved functions are the program's. No condition. -/
import Derived.Test.YteoiegapifoboaaG11E
import Derived.Test.YteoiegapifoboaaG11k0
import Derived.Test.YteoiegapifoboaaAmZ5
namespace G11
open Go.Proofs Go Go.Pl Go.Am Go.Am.As
theorem ok_one {f : Nat} {rf r : RF} {fn : Func} {hs : List (Nat × Hint)} (h : some r = some rf) (h1 : Try.prog.funcs[f]? = some fn) (h2 : compF Try.prog hs r.nargs fn = some r) : ∃ fn hs, Try.prog.funcs[f]? = some fn ∧ compF Try.prog hs rf.nargs fn = some rf := by
  injection h with h; subst h; exact ⟨fn, hs, h1, h2⟩
theorem fns_ok : ∀ (f : Nat) (rf : RF), L11.fns f = some rf → ∃ fn hs, Try.prog.funcs[f]? = some fn ∧ compF Try.prog hs rf.nargs fn = some rf
  | 11, _, h => ok_one h Try.func11 L11.k11
  | 13, _, h => ok_one h Try.func13 L11.k13
  | 14, _, h => ok_one h Try.func14 L11.k14
  | 16, _, h => ok_one h Try.func16 L11.k16
  | 18, _, h => ok_one h Try.func18 L11.k18
  | 20, _, h => ok_one h Try.func20 L11.k20
  | 22, _, h => ok_one h Try.func22 L11.k22
  | 25, _, h => ok_one h Try.func25 L11.k25
  | 27, _, h => ok_one h Try.func27 L11.k27
  | 28, _, h => ok_one h Try.func28 L11.k28
  | 29, _, h => ok_one h Try.func29 L11.k29
  | 30, _, h => ok_one h Try.func30 L11.k30
  | 32, _, h => ok_one h Try.func32 L11.k32
  | 35, _, h => ok_one h Try.func35 L11.k35
  | 39, _, h => ok_one h Try.func39 L11.k39
  | 41, _, h => ok_one h Try.func41 L11.k41
  | 43, _, h => ok_one h Try.func43 L11.k43
  | 45, _, h => ok_one h Try.func45 L11.k45
  | 46, _, h => ok_one h Try.func46 L11.k46
  | 47, _, h => ok_one h Try.func47 L11.k47
  | 48, _, h => ok_one h Try.func48 L11.k48
  | 55, _, h => ok_one h Try.func55 L11.k55
  | 56, _, h => ok_one h Try.func56 L11.k56
  | 59, _, h => ok_one h Try.func59 L11.k59
  | 60, _, h => ok_one h Try.func60 L11.k60
  | 62, _, h => ok_one h Try.func62 L11.k62
  | 63, _, h => ok_one h Try.func63 L11.k63
  | 64, _, h => ok_one h Try.func64 L11.k64
  | 65, _, h => ok_one h Try.func65 L11.k65
  | 66, _, h => ok_one h Try.func66 L11.k66
  | 67, _, h => ok_one h Try.func67 L11.k67
  | 69, _, h => ok_one h Try.func69 L11.k69
  | 70, _, h => ok_one h Try.func70 L11.k70
  | 71, _, h => ok_one h Try.func71 L11.k71
  | 77, _, h => ok_one h Try.func77 L11.k77
  | 78, _, h => ok_one h Try.func78 L11.k78
  | 79, _, h => ok_one h Try.func79 L11.k79
  | 83, _, h => ok_one h Try.func83 L11.k83
  | 85, _, h => ok_one h Try.func85 L11.k85
  | 86, _, h => ok_one h Try.func86 L11.k86
  | 87, _, h => ok_one h Try.func87 L11.k87
  | 89, _, h => ok_one h Try.func89 L11.k89
  | 90, _, h => ok_one h Try.func90 L11.k90
  | 91, _, h => ok_one h Try.func91 L11.k91
  | 92, _, h => ok_one h Try.func92 L11.k92
  | 95, _, h => ok_one h Try.func95 L11.k95
  | 96, _, h => ok_one h Try.func96 L11.k96
  | 0, _, h => nomatch h
  | 1, _, h => nomatch h
  | 2, _, h => nomatch h
  | 3, _, h => nomatch h
  | 4, _, h => nomatch h
  | 5, _, h => nomatch h
  | 6, _, h => nomatch h
  | 7, _, h => nomatch h
  | 8, _, h => nomatch h
  | 9, _, h => nomatch h
  | 10, _, h => nomatch h
  | 12, _, h => nomatch h
  | 15, _, h => nomatch h
  | 17, _, h => nomatch h
  | 19, _, h => nomatch h
  | 21, _, h => nomatch h
  | 23, _, h => nomatch h
  | 24, _, h => nomatch h
  | 26, _, h => nomatch h
  | 31, _, h => nomatch h
  | 33, _, h => nomatch h
  | 34, _, h => nomatch h
  | 36, _, h => nomatch h
  | 37, _, h => nomatch h
  | 38, _, h => nomatch h
  | 40, _, h => nomatch h
  | 42, _, h => nomatch h
  | 44, _, h => nomatch h
  | 49, _, h => nomatch h
  | 50, _, h => nomatch h
  | 51, _, h => nomatch h
  | 52, _, h => nomatch h
  | 53, _, h => nomatch h
  | 54, _, h => nomatch h
  | 57, _, h => nomatch h
  | 58, _, h => nomatch h
  | 61, _, h => nomatch h
  | 68, _, h => nomatch h
  | 72, _, h => nomatch h
  | 73, _, h => nomatch h
  | 74, _, h => nomatch h
  | 75, _, h => nomatch h
  | 76, _, h => nomatch h
  | 80, _, h => nomatch h
  | 81, _, h => nomatch h
  | 82, _, h => nomatch h
  | 84, _, h => nomatch h
  | 88, _, h => nomatch h
  | 93, _, h => nomatch h
  | 94, _, h => nomatch h
  | n + 97, _, h => nomatch h
theorem env_ok : EnvOk Try.prog E0 := ⟨fns_ok, fun g => by rfl, fun _ _ _ h => nomatch h⟩
end G11
