/- The resolved functions are the program's. No condition. -/
import Derived.Test.YtiicggigpcfefaaG17E
import Derived.Test.YtiicggigpcfefaaG17k0
import Derived.Test.YtiicggigpcfefaaAmZ5
namespace G17
open Go.Proofs Go Go.Pl Go.Am Go.Am.As
theorem ok_one {f : Nat} {rf r : RF} {fn : Func} {hs : List (Nat × Hint)} (h : some r = some rf) (h1 : Try.prog.funcs[f]? = some fn) (h2 : compF Try.prog hs r.nargs fn = some r) : ∃ fn hs, Try.prog.funcs[f]? = some fn ∧ compF Try.prog hs rf.nargs fn = some rf := by
  injection h with h; subst h; exact ⟨fn, hs, h1, h2⟩
theorem fns_ok : ∀ (f : Nat) (rf : RF), L17.fns f = some rf → ∃ fn hs, Try.prog.funcs[f]? = some fn ∧ compF Try.prog hs rf.nargs fn = some rf
  | 10, _, h => ok_one h Try.func10 L17.k10
  | 11, _, h => ok_one h Try.func11 L17.k11
  | 12, _, h => ok_one h Try.func12 L17.k12
  | 13, _, h => ok_one h Try.func13 L17.k13
  | 15, _, h => ok_one h Try.func15 L17.k15
  | 17, _, h => ok_one h Try.func17 L17.k17
  | 18, _, h => ok_one h Try.func18 L17.k18
  | 21, _, h => ok_one h Try.func21 L17.k21
  | 23, _, h => ok_one h Try.func23 L17.k23
  | 25, _, h => ok_one h Try.func25 L17.k25
  | 30, _, h => ok_one h Try.func30 L17.k30
  | 32, _, h => ok_one h Try.func32 L17.k32
  | 40, _, h => ok_one h Try.func40 L17.k40
  | 41, _, h => ok_one h Try.func41 L17.k41
  | 42, _, h => ok_one h Try.func42 L17.k42
  | 43, _, h => ok_one h Try.func43 L17.k43
  | 44, _, h => ok_one h Try.func44 L17.k44
  | 45, _, h => ok_one h Try.func45 L17.k45
  | 46, _, h => ok_one h Try.func46 L17.k46
  | 47, _, h => ok_one h Try.func47 L17.k47
  | 48, _, h => ok_one h Try.func48 L17.k48
  | 49, _, h => ok_one h Try.func49 L17.k49
  | 50, _, h => ok_one h Try.func50 L17.k50
  | 51, _, h => ok_one h Try.func51 L17.k51
  | 52, _, h => ok_one h Try.func52 L17.k52
  | 53, _, h => ok_one h Try.func53 L17.k53
  | 54, _, h => ok_one h Try.func54 L17.k54
  | 55, _, h => ok_one h Try.func55 L17.k55
  | 56, _, h => ok_one h Try.func56 L17.k56
  | 57, _, h => ok_one h Try.func57 L17.k57
  | 59, _, h => ok_one h Try.func59 L17.k59
  | 60, _, h => ok_one h Try.func60 L17.k60
  | 64, _, h => ok_one h Try.func64 L17.k64
  | 65, _, h => ok_one h Try.func65 L17.k65
  | 66, _, h => ok_one h Try.func66 L17.k66
  | 67, _, h => ok_one h Try.func67 L17.k67
  | 68, _, h => ok_one h Try.func68 L17.k68
  | 69, _, h => ok_one h Try.func69 L17.k69
  | 70, _, h => ok_one h Try.func70 L17.k70
  | 71, _, h => ok_one h Try.func71 L17.k71
  | 72, _, h => ok_one h Try.func72 L17.k72
  | 73, _, h => ok_one h Try.func73 L17.k73
  | 74, _, h => ok_one h Try.func74 L17.k74
  | 75, _, h => ok_one h Try.func75 L17.k75
  | 76, _, h => ok_one h Try.func76 L17.k76
  | 77, _, h => ok_one h Try.func77 L17.k77
  | 78, _, h => ok_one h Try.func78 L17.k78
  | 79, _, h => ok_one h Try.func79 L17.k79
  | 80, _, h => ok_one h Try.func80 L17.k80
  | 81, _, h => ok_one h Try.func81 L17.k81
  | 82, _, h => ok_one h Try.func82 L17.k82
  | 83, _, h => ok_one h Try.func83 L17.k83
  | 84, _, h => ok_one h Try.func84 L17.k84
  | 85, _, h => ok_one h Try.func85 L17.k85
  | 0, _, h => nomatch h
  | 1, _, h => nomatch h
  | 2, _, h => nomatch h
  | 3, _, h => nomatch h
  | 4, _, h => nomatch h
  | 5, _, h => nomatch h
  | 6, _, h => nomatch h
  | 7, _, h => nomatch h
  | 8, _, h => nomatch h
  | 9, _, h => nomatch h
  | 14, _, h => nomatch h
  | 16, _, h => nomatch h
  | 19, _, h => nomatch h
  | 20, _, h => nomatch h
  | 22, _, h => nomatch h
  | 24, _, h => nomatch h
  | 26, _, h => nomatch h
  | 27, _, h => nomatch h
  | 28, _, h => nomatch h
  | 29, _, h => nomatch h
  | 31, _, h => nomatch h
  | 33, _, h => nomatch h
  | 34, _, h => nomatch h
  | 35, _, h => nomatch h
  | 36, _, h => nomatch h
  | 37, _, h => nomatch h
  | 38, _, h => nomatch h
  | 39, _, h => nomatch h
  | 58, _, h => nomatch h
  | 61, _, h => nomatch h
  | 62, _, h => nomatch h
  | 63, _, h => nomatch h
  | n + 86, _, h => nomatch h
end G17
