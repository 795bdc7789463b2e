/- The resolved functions are the program's. No condition. -/
import Derived.Test.YteoiegapifoboaaG11E
import Derived.Test.YteoiegapifoboaaG11k0
import Derived.Test.YteoiegapifoboaaG11k1
import Derived.Test.YteoiegapifoboaaG11k2
import Derived.Test.YteoiegapifoboaaG11k3
import Derived.Test.YteoiegapifoboaaAmZ5
namespace G11
open Go.Proofs Go Go.Pl Go.Am Go.Am.As
theorem ok_one {f : Nat} {rf r : RF} {fn : Func} {hs : List (Nat × Hint)} (h : some r = some rf) (h1 : Try.prog.funcs[f]? = some fn) (h2 : compF Try.prog hs r.nargs fn = some r) : ∃ fn hs, Try.prog.funcs[f]? = some fn ∧ compF Try.prog hs rf.nargs fn = some rf := by
  injection h with h; subst h; exact ⟨fn, hs, h1, h2⟩
theorem fns_ok : ∀ (f : Nat) (rf : RF), L11.fns f = some rf → ∃ fn hs, Try.prog.funcs[f]? = some fn ∧ compF Try.prog hs rf.nargs fn = some rf
  | 3, _, h => ok_one h Try.func3 L11.k3
  | 4, _, h => ok_one h Try.func4 L11.k4
  | 5, _, h => ok_one h Try.func5 L11.k5
  | 6, _, h => ok_one h Try.func6 L11.k6
  | 7, _, h => ok_one h Try.func7 L11.k7
  | 8, _, h => ok_one h Try.func8 L11.k8
  | 9, _, h => ok_one h Try.func9 L11.k9
  | 10, _, h => ok_one h Try.func10 L11.k10
  | 11, _, h => ok_one h Try.func11 L11.k11
  | 12, _, h => ok_one h Try.func12 L11.k12
  | 13, _, h => ok_one h Try.func13 L11.k13
  | 14, _, h => ok_one h Try.func14 L11.k14
  | 15, _, h => ok_one h Try.func15 L11.k15
  | 16, _, h => ok_one h Try.func16 L11.k16
  | 17, _, h => ok_one h Try.func17 L11.k17
  | 18, _, h => ok_one h Try.func18 L11.k18
  | 19, _, h => ok_one h Try.func19 L11.k19
  | 20, _, h => ok_one h Try.func20 L11.k20
  | 21, _, h => ok_one h Try.func21 L11.k21
  | 22, _, h => ok_one h Try.func22 L11.k22
  | 23, _, h => ok_one h Try.func23 L11.k23
  | 24, _, h => ok_one h Try.func24 L11.k24
  | 25, _, h => ok_one h Try.func25 L11.k25
  | 26, _, h => ok_one h Try.func26 L11.k26
  | 27, _, h => ok_one h Try.func27 L11.k27
  | 28, _, h => ok_one h Try.func28 L11.k28
  | 29, _, h => ok_one h Try.func29 L11.k29
  | 30, _, h => ok_one h Try.func30 L11.k30
  | 31, _, h => ok_one h Try.func31 L11.k31
  | 32, _, h => ok_one h Try.func32 L11.k32
  | 33, _, h => ok_one h Try.func33 L11.k33
  | 34, _, h => ok_one h Try.func34 L11.k34
  | 35, _, h => ok_one h Try.func35 L11.k35
  | 36, _, h => ok_one h Try.func36 L11.k36
  | 37, _, h => ok_one h Try.func37 L11.k37
  | 38, _, h => ok_one h Try.func38 L11.k38
  | 39, _, h => ok_one h Try.func39 L11.k39
  | 40, _, h => ok_one h Try.func40 L11.k40
  | 41, _, h => ok_one h Try.func41 L11.k41
  | 42, _, h => ok_one h Try.func42 L11.k42
  | 43, _, h => ok_one h Try.func43 L11.k43
  | 44, _, h => ok_one h Try.func44 L11.k44
  | 45, _, h => ok_one h Try.func45 L11.k45
  | 46, _, h => ok_one h Try.func46 L11.k46
  | 47, _, h => ok_one h Try.func47 L11.k47
  | 48, _, h => ok_one h Try.func48 L11.k48
  | 49, _, h => ok_one h Try.func49 L11.k49
  | 50, _, h => ok_one h Try.func50 L11.k50
  | 51, _, h => ok_one h Try.func51 L11.k51
  | 52, _, h => ok_one h Try.func52 L11.k52
  | 53, _, h => ok_one h Try.func53 L11.k53
  | 54, _, h => ok_one h Try.func54 L11.k54
  | 55, _, h => ok_one h Try.func55 L11.k55
  | 56, _, h => ok_one h Try.func56 L11.k56
  | 57, _, h => ok_one h Try.func57 L11.k57
  | 58, _, h => ok_one h Try.func58 L11.k58
  | 59, _, h => ok_one h Try.func59 L11.k59
  | 60, _, h => ok_one h Try.func60 L11.k60
  | 61, _, h => ok_one h Try.func61 L11.k61
  | 62, _, h => ok_one h Try.func62 L11.k62
  | 63, _, h => ok_one h Try.func63 L11.k63
  | 64, _, h => ok_one h Try.func64 L11.k64
  | 65, _, h => ok_one h Try.func65 L11.k65
  | 66, _, h => ok_one h Try.func66 L11.k66
  | 67, _, h => ok_one h Try.func67 L11.k67
  | 68, _, h => ok_one h Try.func68 L11.k68
  | 69, _, h => ok_one h Try.func69 L11.k69
  | 70, _, h => ok_one h Try.func70 L11.k70
  | 71, _, h => ok_one h Try.func71 L11.k71
  | 72, _, h => ok_one h Try.func72 L11.k72
  | 73, _, h => ok_one h Try.func73 L11.k73
  | 74, _, h => ok_one h Try.func74 L11.k74
  | 75, _, h => ok_one h Try.func75 L11.k75
  | 76, _, h => ok_one h Try.func76 L11.k76
  | 77, _, h => ok_one h Try.func77 L11.k77
  | 78, _, h => ok_one h Try.func78 L11.k78
  | 79, _, h => ok_one h Try.func79 L11.k79
  | 80, _, h => ok_one h Try.func80 L11.k80
  | 81, _, h => ok_one h Try.func81 L11.k81
  | 82, _, h => ok_one h Try.func82 L11.k82
  | 83, _, h => ok_one h Try.func83 L11.k83
  | 84, _, h => ok_one h Try.func84 L11.k84
  | 85, _, h => ok_one h Try.func85 L11.k85
  | 86, _, h => ok_one h Try.func86 L11.k86
  | 87, _, h => ok_one h Try.func87 L11.k87
  | 88, _, h => ok_one h Try.func88 L11.k88
  | 89, _, h => ok_one h Try.func89 L11.k89
  | 90, _, h => ok_one h Try.func90 L11.k90
  | 91, _, h => ok_one h Try.func91 L11.k91
  | 92, _, h => ok_one h Try.func92 L11.k92
  | 93, _, h => ok_one h Try.func93 L11.k93
  | 94, _, h => ok_one h Try.func94 L11.k94
  | 95, _, h => ok_one h Try.func95 L11.k95
  | 96, _, h => ok_one h Try.func96 L11.k96
  | 0, _, h => nomatch h
  | 1, _, h => nomatch h
  | 2, _, h => nomatch h
  | n + 97, _, h => nomatch h
theorem env_ok : EnvOk Try.prog E0 := ⟨fns_ok, fun g => rfl⟩
end G11
