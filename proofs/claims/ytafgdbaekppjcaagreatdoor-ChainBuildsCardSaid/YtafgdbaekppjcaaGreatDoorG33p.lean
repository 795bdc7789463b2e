/- The code computes the models, printed by a program of mine (dec3.py). No condition. -/
import Derived.Test.YtafgdbaekppjcaaGreatDoorG33a
set_option linter.unusedSectionVars false
set_option linter.unusedVariables false
set_option linter.unusedSimpArgs false
namespace G33
open Go hiding Obj mark
open Go.Pl Go.Am Go.Am.As Dnm
set_option linter.unusedVariables false
def a10 : An := (.s [.n, (.s [.n, (.s [(.s [.n, (.l true 0 ⟨[I], [(3, .lf I)], [.dead]⟩ ⟨[], [], [.dead]⟩ .n)])])])])
def c10 : Con GT := ⟨10, [.lf st2], [st2], [B], fun x => m10 x⟩
theorem k10 : c10.Ok E0 hp sp.ge := con_of a10 (fun x => by kernel_rfl) cnil mnil
def a250 : An := (.s [.n, (.s [(.j false ⟨[B], [(2, .lf B)], []⟩ .n)])])
def c250 : Con GT := ⟨250, [.lf I], [I], [B], fun x => m250 x⟩
theorem k250 : c250.Ok E0 hp sp.ge := con_of a250 (fun x => by kernel_rfl) cnil mnil
def a212 : An := (.s [.n, (.s [.n, (.s [.n, (.s [(.s [.n, (.l true 1 ⟨[I, I], [(4, .lf I), (19, .lf I)], [.dead]⟩ ⟨[], [], [.dead]⟩ .n)]), (.s [(.s [(.j false ⟨[B], [(48, .lf B)], [.dead]⟩ .n)])])])])])])
def c212 : Con GT := ⟨212, [.lf st1], [st1], [I], fun x => m212 x⟩
theorem k212 : c212.Ok E0 hp sp.ge := con_of a212 (fun x => by kernel_rfl) (ccons k250 cnil) mnil
def a139 : An := (.s [.n, (.s [.n, (.s [(.s [.n, (.l true 0 ⟨[I, (.arr 6 B)], [(20, .lf I)], [.dead, .dead, .arr 6 B]⟩ ⟨[(.arr 6 B)], [], [.dead, .dead, .arr 6 B]⟩ .n)]), (.s [(.s [.n, (.l true 2 ⟨[I, (.arr 6 B)], [(33, .lf I)], [.dead, .dead, .arr 6 B]⟩ ⟨[(.arr 6 B)], [], [.dead, .dead, .arr 6 B]⟩ .n)])])])])])
def c139 : Con GT := ⟨139, [.lf st2, .lf st1, .lf (.arr 6 B)], [st2, st1, (.arr 6 B)], [I], fun x => m139 x.1 x.2.1 x.2.2⟩
theorem k139 : c139.Ok E0 hp sp.ge := con_of a139 (fun x => by kernel_rfl) (ccons k212 cnil) mnil
def a140 : An := (.s [.n, (.s [(.s [.n, (.l false 0 ⟨[I, (.arr 6 B), (.arr 6 B)], [(10, .lf I)], [.arr 6 B, .dead, .arr 6 B]⟩ ⟨[(.arr 6 B), (.arr 6 B)], [], [.arr 6 B, .dead, .arr 6 B]⟩ .n)])])])
def c140 : Con GT := ⟨140, [.lf (.arr 6 B), .lf st1], [(.arr 6 B), st1], [(.arr 6 B)], fun x => m140 x.1 x.2⟩
theorem k140 : c140.Ok E0 hp sp.ge := con_of a140 (fun x => by kernel_rfl) cnil mnil
def a213 : An := (.s [.n, (.s [(.s [.n, (.l true 0 ⟨[I], [(8, .lf I)], []⟩ ⟨[], [], []⟩ .n)])])])
def c213 : Con GT := ⟨213, [.lf (.list B), .lf B], [(.list B), B], [I], fun x => m213 x.1 x.2⟩
theorem k213 : c213.Ok E0 hp sp.ge := con_of a213 (fun x => by kernel_rfl) cnil mnil
def a141 : An := .n
def c141 : Con GT := ⟨141, [.lf (.list B), .lf B], [(.list B), B], [B], fun x => m141 x.1 x.2⟩
theorem k141 : c141.Ok E0 hp sp.ge := con_of a141 (fun x => by kernel_rfl) (ccons k213 cnil) mnil
def a81 : An := (.s [.n, (.s [(.s [(.j false ⟨[B], [(10, .lf B)], [.dead]⟩ .n)]), (.s [.n, (.s [(.s [.n, (.l true 1 ⟨[I, (.arr 6 B), (.arr 6 B)], [(32, .lf I)], [.dead, .arr 6 B, .arr 6 B]⟩ ⟨[(.arr 6 B), (.arr 6 B)], [], [.dead, .arr 6 B, .arr 6 B]⟩ (.s [.n, (.s [.n, (.s [(.s [.n, (.s [.n, (.s [.n, (.s [.n, (.l false 3 ⟨[I, (.arr 6 B), (.arr 6 B)], [(49, .lf I)], [.dead, .arr 6 B, .arr 6 B, .dead]⟩ ⟨[(.arr 6 B), (.arr 6 B)], [], [.dead, .arr 6 B, .arr 6 B, .dead]⟩ .n)])])])])])])]))])])])])])
def c81 : Con GT := ⟨81, [.lf st2], [st2], [I], fun x => m81 x⟩
theorem k81 : c81.Ok E0 hp sp.ge := con_of a81 (fun x => by kernel_rfl) (ccons k139 (ccons k140 (ccons k141 cnil))) mnil
def a82 : An := (.s [.n, (.s [.n, (.s [.n, (.s [(.s [.n, (.l false 0 ⟨[I, I, I, (.list st1), I, (.list I), (.list I)], [(4, .lf I), (25, .lf I)], [.dead, .box [.lf I, .lf (.list st1), .lf I, .own 2, .own 3], .lst .nil I, .lst .nil I]⟩ ⟨[I, (.list st1), I, (.list I), (.list I)], [], [.dead, .box [.lf I, .lf (.list st1), .lf I, .lf (.list I), .own 3], .dead, .lst .nil I]⟩ (.s [.n, (.s [.n, (.s [(.s [.n, (.s [.n, (.s [.n, (.s [.n, (.j false ⟨[I, I, (.list st1), I, (.list I), (.list I)], [(4, .lf I)], [.dead, .box [.lf I, .lf (.list st1), .lf I, .own 2, .own 3], .lst .nil I, .lst .nil I, .dead]⟩ .n)])])])])])])]))]), (.s [(.s [.n, (.j false ⟨[I, (.list st1), I, (.list I), (.list I)], [], [.dead, .box [.lf I, .lf (.list st1), .lf I, .lf (.list I), .own 3], .dead, .lst .nil I]⟩ .n)])])])])])])
def c82 : Con GT := ⟨82, [.lf st2], [st2], [(.ptr st11)], fun x => m82 x⟩
theorem k82 : c82.Ok E0 hp sp.ge := con_of a82 (fun x => by kernel_rfl) cnil mnil
def a217 : An := .n
def c217 : Con GT := ⟨217, [.lf I], [I], [st4], fun x => m217 x⟩
theorem k217 : c217.Ok E0 hp sp.ge := con_of a217 (fun x => by kernel_rfl) cnil mnil
def a215 : An := (.s [.n, (.s [.n, (.s [(.o [(2, (.s [.n, (.s [.n, (.s [(.s [.n, (.l false 0 ⟨[I, (.list st4)], [(5, .own 0), (19, .lf I)], [.lst .nil st4]⟩ ⟨[(.list st4)], [(5, .own 0)], [.lst .nil st4]⟩ (.s [.n, (.s [.n, (.s [(.s [.n, (.s [.n, (.s [(.s [.n, (.j false ⟨[I, (.list st4)], [(8, .lf I)], [.lst .nil st4, .dead]⟩ .n)])])])])])])]))])])])]))])])])])
def c215 : Con GT := ⟨215, [.lf (.ptr st11), .lf I], [(.ptr st11), I], [(.list st4)], fun x => m215 x.1 x.2⟩
theorem k215 : c215.Ok E0 hp sp.ge := con_of a215 (fun x => by kernel_rfl) (ccons k217 cnil) mnil
def d215 : ConM GT := ⟨215, [.lf (.ptr st11), .lf I], [(.ptr st11), I], st4, fun x => m215 x.1 x.2⟩
theorem l215 : d215.Ok E0 hp sp.ge := conM_of a215 (fun x => by kernel_rfl) (ccons k217 cnil) mnil
def a214 : An := .n
def c214 : Con GT := ⟨214, [.lf I, .lf (.list st4)], [I, (.list st4)], [st4], fun x => m214 x.1 x.2⟩
theorem k214 : c214.Ok E0 hp sp.ge := con_of a214 (fun x => by kernel_rfl) cnil mnil
def a216 : An := .n
def c216 : Con GT := ⟨216, [.lf (.ptr st11)], [(.ptr st11)], [st4], fun x => m216 x⟩
theorem k216 : c216.Ok E0 hp sp.ge := con_of a216 (fun x => by kernel_rfl) (ccons k217 cnil) mnil
def a268 : An := .n
def c268 : Con GT := ⟨268, [.lf I], [I], [S], fun x => m268 x⟩
theorem k268 : c268.Ok E0 hp sp.ge := con_of a268 (fun x => by kernel_rfl) cnil mnil
def a254 : An := (.s [.n, (.s [(.s [.n, (.s [(.s [(.s [(.j false ⟨[B], [(17, .lf B)], []⟩ .n)]), (.s [.n, (.s [.n, (.s [(.s [.n, (.j false ⟨[(.int .u64), (.arr 24 (.int .u8))], [(6, .lf (.int .u64))], [.arr 24 (.int .u8)]⟩ .n)])])])])])])])])])
def c254 : Con GT := ⟨254, [.lf I, .lf I], [I, I], [S], fun x => m254 x.1 x.2⟩
theorem k254 : c254.Ok E0 hp sp.ge := con_of a254 (fun x => by kernel_rfl) (ccons k268 cnil) mnil
def a225 : An := .n
def c225 : Con GT := ⟨225, [.lf I], [I], [S], fun x => m225 x⟩
theorem k225 : c225.Ok E0 hp sp.ge := con_of a225 (fun x => by kernel_rfl) (ccons k254 cnil) mnil
def a172 : An := .n
def c172 : Con GT := ⟨172, [.lf I], [I], [S], fun x => m172 x⟩
theorem k172 : c172.Ok E0 hp sp.ge := con_of a172 (fun x => by kernel_rfl) (ccons k225 cnil) mnil
def a142 : An := (.s [.n, (.s [.n, (.s [.n, (.s [.n, (.s [(.s [.n, (.j false ⟨[(.list st5)], [], [.dead, .dead, .box [.own 3], .lst .nil st5, .dead]⟩ (.s [.n, (.l true 0 ⟨[I, (.list st5)], [(5, .lf I)], [.dead, .dead, .box [.own 3], .lst .nil st5, .dead, .lp .ready 0]⟩ ⟨[(.list st5)], [], [.dead, .dead, .box [.own 3], .lst .nil st5, .dead, .lp .ready 0]⟩ (.s [.n, (.s [.n, (.s [(.s [.n, (.s [(.o [(13, (.s [.n, (.s [.n, (.s [(.s [.n, (.j false ⟨[(.list st5), I, I, (.list st4)], [(7, .own 7)], [.dead, .dead, .box [.own 3], .lst .nil st5, .dead, .lp .busy 0, .box [.lf I, .lf I], .lst .norm st4]⟩ .n)])])])]))])])])])])]))]))])])])])])])
def d142 : ConM GT := ⟨142, [.lf (.ptr st11)], [(.ptr st11)], st5, fun x => m142 x⟩
theorem l142 : d142.Ok E0 hp sp.ge := conM_of a142 (fun x => by kernel_rfl) (ccons k215 (ccons k214 (ccons k216 (ccons k217 (ccons k172 cnil))))) (mcons l215 mnil)
def a143 : An := (.s [.n, (.s [.n, (.s [(.s [.n, (.l false 0 ⟨[I, (.list st5)], [(3, .own 0), (13, .lf I)], [.lst .nil st5]⟩ ⟨[(.list st5)], [(3, .own 0)], [.lst .nil st5]⟩ (.s [.n, (.s [.n, (.s [(.s [.n, (.s [.n, (.j false ⟨[(.list st5)], [(3, .own 0)], [.lst .nil st5, .dead]⟩ (.s [(.s [(.o [(11, (.s [.n, (.s [.n, (.s [(.s [.n, (.l false 0 ⟨[I, (.list st5), (.list st4), (.list st4)], [(5, .own 3), (19, .lf I)], [.lst .nil st5, .dead, .lst .norm st4, .lst .nil st4]⟩ ⟨[(.list st5), (.list st4), (.list st4)], [(5, .own 3)], [.lst .nil st5, .dead, .lst .norm st4, .lst .nil st4]⟩ (.s [.n, (.s [.n, (.s [(.s [.n, (.s [.n, (.s [(.s [.n, (.j false ⟨[I, (.list st5), (.list st4), (.list st4)], [(8, .lf I)], [.lst .nil st5, .dead, .lst .norm st4, .lst .nil st4, .dead]⟩ .n)])])])])])])]))])])])]))])])]))])])])])]))])])])])
def c143 : Con GT := ⟨143, [.lf (.ptr st11)], [(.ptr st11)], [(.list st5)], fun x => m143 x⟩
theorem k143 : c143.Ok E0 hp sp.ge := con_of a143 (fun x => by kernel_rfl) (ccons k217 (ccons k172 (ccons k214 cnil))) mnil
def a145 : An := .n
def c145 : Con GT := ⟨145, [.lf st0, .pro [.lf I]], [st0, I], [B], fun x => m145 x.1 x.2⟩
theorem k145 : c145.Ok E0 hp sp.ge := con_of a145 (fun x => by kernel_rfl) cnil mnil
def a252_145 : An := (.s [.n, (.s [(.s [.n, (.l true 0 ⟨[I], [(8, .lf I)], []⟩ ⟨[], [], []⟩ .n)])])])
def c252_145 : Con GT := ⟨252, [.lf (.list st0), .fn 145 [.pro [.lf I]]], [(.list st0), I], [I], fun x => m252_145 x.1 x.2⟩
theorem k252_145 : c252_145.Ok E0 hp sp.ge := con_of a252_145 (fun x => by kernel_rfl) (ccons k145 cnil) mnil
def a220_145 : An := .n
def c220_145 : Con GT := ⟨220, [.lf (.list st0), .fn 145 [.pro [.lf I]]], [(.list st0), I], [B], fun x => m220_145 x.1 x.2⟩
theorem k220_145 : c220_145.Ok E0 hp sp.ge := con_of a220_145 (fun x => by kernel_rfl) (ccons k252_145 cnil) mnil
def a144_145 : An := (.s [.n, (.s [.n, (.s [(.s [.n, (.l false 0 ⟨[I, S, I, I, I, (.list st4), I, I, (.list st4), I, B, (.list st4)], [(7, .own 1), (16, .lf I)], [.box [.lf S, .lf I, .lf I, .lf I, .lf (.list st4), .lf I, .lf I, .lf (.list st4), .lf I, .lf B], .lst .nil st4]⟩ ⟨[S, I, I, I, (.list st4), I, I, (.list st4), I, B, (.list st4)], [(7, .own 1)], [.box [.lf S, .lf I, .lf I, .lf I, .lf (.list st4), .lf I, .lf I, .lf (.list st4), .lf I, .lf B], .lst .nil st4]⟩ (.s [.n, (.s [.n, (.s [(.s [.n, (.s [.n, (.j false ⟨[S, I, I, I, (.list st4), I, I, (.list st4), I, B, (.list st4)], [(7, .own 1)], [.box [.lf S, .lf I, .lf I, .lf I, .lf (.list st4), .lf I, .lf I, .lf (.list st4), .lf I, .lf B], .lst .nil st4, .dead]⟩ .n)])])])])]))])])])])
def c144_145 : Con GT := ⟨144, [.lf (.ptr st11), .lf S, .fn 145 [.pro [.lf I]]], [(.ptr st11), S, I], [st5], fun x => m144_145 x.1 x.2.1 x.2.2⟩
theorem k144_145 : c144_145.Ok E0 hp sp.ge := con_of a144_145 (fun x => by kernel_rfl) (ccons k220_145 (ccons k217 (ccons k214 cnil))) mnil
def a146 : An := .n
def c146 : Con GT := ⟨146, [.lf st0, .pro [.lf I]], [st0, I], [B], fun x => m146 x.1 x.2⟩
theorem k146 : c146.Ok E0 hp sp.ge := con_of a146 (fun x => by kernel_rfl) cnil mnil
def a252_146 : An := (.s [.n, (.s [(.s [.n, (.l true 0 ⟨[I], [(8, .lf I)], []⟩ ⟨[], [], []⟩ .n)])])])
def c252_146 : Con GT := ⟨252, [.lf (.list st0), .fn 146 [.pro [.lf I]]], [(.list st0), I], [I], fun x => m252_146 x.1 x.2⟩
theorem k252_146 : c252_146.Ok E0 hp sp.ge := con_of a252_146 (fun x => by kernel_rfl) (ccons k146 cnil) mnil
def a220_146 : An := .n
def c220_146 : Con GT := ⟨220, [.lf (.list st0), .fn 146 [.pro [.lf I]]], [(.list st0), I], [B], fun x => m220_146 x.1 x.2⟩
theorem k220_146 : c220_146.Ok E0 hp sp.ge := con_of a220_146 (fun x => by kernel_rfl) (ccons k252_146 cnil) mnil
def a144_146 : An := (.s [.n, (.s [.n, (.s [(.s [.n, (.l false 0 ⟨[I, S, I, I, I, (.list st4), I, I, (.list st4), I, B, (.list st4)], [(7, .own 1), (16, .lf I)], [.box [.lf S, .lf I, .lf I, .lf I, .lf (.list st4), .lf I, .lf I, .lf (.list st4), .lf I, .lf B], .lst .nil st4]⟩ ⟨[S, I, I, I, (.list st4), I, I, (.list st4), I, B, (.list st4)], [(7, .own 1)], [.box [.lf S, .lf I, .lf I, .lf I, .lf (.list st4), .lf I, .lf I, .lf (.list st4), .lf I, .lf B], .lst .nil st4]⟩ (.s [.n, (.s [.n, (.s [(.s [.n, (.s [.n, (.j false ⟨[S, I, I, I, (.list st4), I, I, (.list st4), I, B, (.list st4)], [(7, .own 1)], [.box [.lf S, .lf I, .lf I, .lf I, .lf (.list st4), .lf I, .lf I, .lf (.list st4), .lf I, .lf B], .lst .nil st4, .dead]⟩ .n)])])])])]))])])])])
def c144_146 : Con GT := ⟨144, [.lf (.ptr st11), .lf S, .fn 146 [.pro [.lf I]]], [(.ptr st11), S, I], [st5], fun x => m144_146 x.1 x.2.1 x.2.2⟩
theorem k144_146 : c144_146.Ok E0 hp sp.ge := con_of a144_146 (fun x => by kernel_rfl) (ccons k220_146 (ccons k217 (ccons k214 cnil))) mnil
def a83 : An := (.s [.n, (.s [.n, (.s [(.s [.n, (.l false 0 ⟨[I, I, (.list S), (.list st5), (.list I), (.list I), (.list S), (.list st5), I, (.list I), (.list I)], [(24, .lf I)], [.box [.lf I, .lf (.list S), .lf (.list st5), .lf (.list I), .lf (.list I)], .lst .norm S, .lst .norm st5, .rsv, .box [.lf I, .own 1, .own 2, .own 5, .own 6], .lst .nil I, .lst .nil I]⟩ ⟨[I, (.list S), (.list st5), (.list I), (.list I), (.list S), (.list st5), I, (.list I), (.list I)], [], [.box [.lf I, .lf (.list S), .lf (.list st5), .lf (.list I), .lf (.list I)], .lst .norm S, .lst .norm st5, .rsv, .box [.lf I, .own 1, .own 2, .own 5, .own 6], .lst .nil I, .lst .nil I]⟩ .n)])])])])
def c83 : Con GT := ⟨83, [.lf (.ptr st11)], [(.ptr st11)], [st6], fun x => m83 x⟩
theorem k83 : c83.Ok E0 hp sp.ge := con_of a83 (fun x => by kernel_rfl) (ccons k143 (ccons k144_145 (ccons k144_146 cnil))) (mcons l142 mnil)
def a43 : An := .n
def c43 : Con GT := ⟨43, [.lf st2], [st2], [(.optr st11), st6, I], fun x => m43 x⟩
theorem k43 : c43.Ok E0 hp sp.ge := con_of a43 (fun x => by kernel_rfl) (ccons k81 (ccons k82 (ccons k83 cnil))) mnil
def a12 : An := .n
def c12 : Con GT := ⟨12, [.lf st2], [st2], [st6, I], fun x => m12 x⟩
theorem k12 : c12.Ok E0 hp sp.ge := con_of a12 (fun x => by kernel_rfl) (ccons k43 cnil) mnil
def a221 : An := (.s [.n, (.s [(.j false ⟨[B], [(2, .lf B)], []⟩ .n)])])
def c221 : Con GT := ⟨221, [.lf I], [I], [B], fun x => m221 x⟩
theorem k221 : c221.Ok E0 hp sp.ge := con_of a221 (fun x => by kernel_rfl) cnil mnil
def a222 : An := (.s [.n, (.s [(.j false ⟨[B], [(2, .lf B)], []⟩ .n)])])
def c222 : Con GT := ⟨222, [.lf I], [I], [B], fun x => m222 x⟩
theorem k222 : c222.Ok E0 hp sp.ge := con_of a222 (fun x => by kernel_rfl) cnil mnil
def a154 : An := (.s [.n, (.s [.n, (.s [.n, (.s [(.s [.n, (.l true 0 ⟨[I], [(3, .lf I)], [.dead]⟩ ⟨[], [], [.dead]⟩ (.s [.n, (.s [(.s [.n, (.s [(.s [(.j false ⟨[B], [(44, .lf B)], [.dead]⟩ .n)]), (.s [(.j false ⟨[B], [(62, .lf B)], [.dead]⟩ .n)])])])])]))])])])])])
def c154 : Con GT := ⟨154, [.lf st1], [st1], [I], fun x => m154 x⟩
theorem k154 : c154.Ok E0 hp sp.ge := con_of a154 (fun x => by kernel_rfl) (ccons k221 (ccons k222 cnil)) mnil
def a155 : An := (.s [.n, (.s [(.s [.n, (.l true 0 ⟨[I], [(5, .lf I)], [.dead]⟩ ⟨[], [], [.dead]⟩ (.s [.n, (.s [(.s [.n, (.s [(.j false ⟨[B], [(33, .lf B)], [.dead, .dead]⟩ .n)])])])]))])])])
def c155 : Con GT := ⟨155, [.lf st1, .lf (.list B)], [st1, (.list B)], [B], fun x => m155 x.1 x.2⟩
theorem k155 : c155.Ok E0 hp sp.ge := con_of a155 (fun x => by kernel_rfl) cnil mnil
def a156 : An := (.s [.n, (.s [.n, (.s [(.s [.n, (.l false 0 ⟨[I, (.list B)], [(6, .lf I)], [.dead, .lst .norm B]⟩ ⟨[(.list B)], [], [.dead, .lst .norm B]⟩ .n)])])])])
def c156 : Con GT := ⟨156, [.lf st1, .lf (.list B)], [st1, (.list B)], [(.list B)], fun x => m156 x.1 x.2⟩
theorem k156 : c156.Ok E0 hp sp.ge := con_of a156 (fun x => by kernel_rfl) cnil mnil
def a91 : An := (.s [.n, (.s [.n, (.s [(.s [.n, (.l true 0 ⟨[(.list B), I], [(3, .lf (.list B)), (4, .lf I)], [.dead]⟩ ⟨[(.list B)], [(3, .lf (.list B))], [.dead]⟩ (.s [.n, (.s [(.s [.n, (.s [.n, (.s [(.s [.n, (.l true 2 ⟨[I], [(7, .lf I)], [.dead, .dead]⟩ ⟨[], [], [.dead, .dead]⟩ .n)])])])])])]))]), (.s [(.s [.n, (.l true 4 ⟨[I], [(8, .lf I)], [.dead]⟩ ⟨[], [], [.dead]⟩ .n)])])])])])
def c91 : Con GT := ⟨91, [.lf st2], [st2], [I], fun x => m91 x⟩
theorem k91 : c91.Ok E0 hp sp.ge := con_of a91 (fun x => by kernel_rfl) (ccons k154 (ccons k155 (ccons k156 cnil))) mnil
def a157 : An := (.s [.n, (.s [(.s [.n, (.l true 0 ⟨[I], [(5, .lf I)], [.dead]⟩ ⟨[], [], [.dead]⟩ .n)])])])
def c157 : Con GT := ⟨157, [.lf st1, .lf I], [st1, I], [I], fun x => m157 x.1 x.2⟩
theorem k157 : c157.Ok E0 hp sp.ge := con_of a157 (fun x => by kernel_rfl) cnil mnil
def a92 : An := (.s [.n, (.s [(.s [.n, (.l true 0 ⟨[I], [(5, .lf I)], [.dead]⟩ ⟨[], [], [.dead]⟩ .n)])])])
def c92 : Con GT := ⟨92, [.lf st2, .lf I], [st2, I], [B], fun x => m92 x.1 x.2⟩
theorem k92 : c92.Ok E0 hp sp.ge := con_of a92 (fun x => by kernel_rfl) (ccons k157 cnil) mnil
def a49 : An := (.s [.n, (.s [(.s [(.j false ⟨[B], [(12, .lf B)], [.dead]⟩ .n)]), (.s [.n, (.s [.n, (.s [.n, (.s [(.s [.n, (.l true 0 ⟨[I], [(4, .lf I)], [.dead]⟩ ⟨[], [], [.dead]⟩ .n)])])])])])])])
def c49 : Con GT := ⟨49, [.lf st2], [st2], [I], fun x => m49 x⟩
theorem k49 : c49.Ok E0 hp sp.ge := con_of a49 (fun x => by kernel_rfl) (ccons k91 (ccons k92 cnil)) mnil
def a99 : An := .n
def c99 : Con GT := ⟨99, [.lf st2], [st2], [I], fun x => m99 x⟩
theorem k99 : c99.Ok E0 hp sp.ge := con_of a99 (fun x => by kernel_rfl) cnil mnil
def a130 : An := (.s [.n, (.s [.n, (.s [(.s [.n, (.l false 0 ⟨[I, I, I, (.list st1), (.list I), I, (.list st1), (.list I)], [(1, .lf I), (6, .lf I)], [.dead, .box [.lf I, .lf (.list st1), .lf (.list I)], .box [.lf I, .lf (.list st1), .own 3], .lst .nil I]⟩ ⟨[I, (.list st1), (.list I), I, (.list st1), (.list I)], [], [.dead, .box [.lf I, .lf (.list st1), .lf (.list I)], .box [.lf I, .lf (.list st1), .own 3], .lst .nil I]⟩ (.s [.n, (.s [(.j false ⟨[I, I, (.list st1), (.list I), I, (.list st1), (.list I)], [(1, .lf I)], [.dead, .box [.lf I, .lf (.list st1), .lf (.list I)], .box [.lf I, .lf (.list st1), .own 3], .lst .nil I]⟩ .n)])]))])])])])
def c130 : Con GT := ⟨130, [.lf st2, .lf I], [st2, I], [st8], fun x => m130 x.1 x.2⟩
theorem k130 : c130.Ok E0 hp sp.ge := con_of a130 (fun x => by kernel_rfl) cnil mnil
def a84 : An := .n
def c84 : Con GT := ⟨84, [.lf st2], [st2], [st8], fun x => m84 x⟩
theorem k84 : c84.Ok E0 hp sp.ge := con_of a84 (fun x => by kernel_rfl) (ccons k99 (ccons k130 cnil)) mnil
def a75 : An := (.s [.n, (.s [.n, (.s [(.s [.n, (.l false 0 ⟨[I, I], [(3, .lf I), (4, .lf I)], [.dead]⟩ ⟨[I], [(3, .lf I)], [.dead]⟩ (.s [.n, (.s [(.s [.n, (.j false ⟨[I], [(3, .lf I)], [.dead]⟩ .n)])])]))])])])])
def c75 : Con GT := ⟨75, [.lf st8], [st8], [I], fun x => m75 x⟩
theorem k75 : c75.Ok E0 hp sp.ge := con_of a75 (fun x => by kernel_rfl) cnil mnil
def a44 : An := .n
def c44 : Con GT := ⟨44, [.lf st2], [st2], [I], fun x => m44 x⟩
theorem k44 : c44.Ok E0 hp sp.ge := con_of a44 (fun x => by kernel_rfl) (ccons k49 (ccons k84 (ccons k75 cnil))) mnil
def a87 : An := (.s [.n, (.s [.n, (.s [.n, (.s [(.s [.n, (.l false 0 ⟨[I, (.list I)], [(3, .own 1), (4, .lf I)], [.dead, .lst .nil I]⟩ ⟨[(.list I)], [(3, .own 1)], [.dead, .lst .nil I]⟩ .n)])])])])])
def c87 : Con GT := ⟨87, [.lf st2], [st2], [(.list I)], fun x => m87 x⟩
theorem k87 : c87.Ok E0 hp sp.ge := con_of a87 (fun x => by kernel_rfl) (ccons k99 cnil) mnil
def a147 : An := .n
def c147 : Con GT := ⟨147, [.lf I], [I], [st4], fun x => m147 x⟩
theorem k147 : c147.Ok E0 hp sp.ge := con_of a147 (fun x => by kernel_rfl) cnil mnil
def a151 : An := (.s [.n, (.s [.n, (.s [(.s [.n, (.l false 0 ⟨[I, (.list st4)], [(3, .own 1), (4, .lf I)], [.dead, .lst .nil st4]⟩ ⟨[(.list st4)], [(3, .own 1)], [.dead, .lst .nil st4]⟩ (.s [.n, (.s [(.s [.n, (.s [(.s [.n, (.j false ⟨[I, (.list st4)], [(5, .lf I)], [.dead, .lst .nil st4]⟩ .n)])])])])]))])])])])
def c151 : Con GT := ⟨151, [.lf st1], [st1], [(.list st4)], fun x => m151 x⟩
theorem k151 : c151.Ok E0 hp sp.ge := con_of a151 (fun x => by kernel_rfl) (ccons k147 cnil) mnil
def a149 : An := .n
def c149 : Con GT := ⟨149, [.lf st8, .lf I], [st8, I], [(.list st4)], fun x => m149 x.1 x.2⟩
theorem k149 : c149.Ok E0 hp sp.ge := con_of a149 (fun x => by kernel_rfl) (ccons k147 (ccons k151 cnil)) mnil
def a148 : An := .n
def c148 : Con GT := ⟨148, [.lf I, .lf (.list st4)], [I, (.list st4)], [st4], fun x => m148 x.1 x.2⟩
theorem k148 : c148.Ok E0 hp sp.ge := con_of a148 (fun x => by kernel_rfl) cnil mnil
def a150 : An := .n
def c150 : Con GT := ⟨150, [.lf st2, .lf I], [st2, I], [st4], fun x => m150 x.1 x.2⟩
theorem k150 : c150.Ok E0 hp sp.ge := con_of a150 (fun x => by kernel_rfl) (ccons k84 (ccons k149 (ccons k148 cnil))) mnil
def a109 : An := (.s [.n, (.s [.n, (.s [(.s [.n, (.l false 0 ⟨[S, I], [(5, .lf S), (6, .lf I)], []⟩ ⟨[S], [(5, .lf S)], []⟩ (.s [(.s [(.j false ⟨[B], [(13, .lf B)], []⟩ .n)])]))])])])])
def c109 : Con GT := ⟨109, [.lf S, .lf I], [S, I], [S], fun x => m109 x.1 x.2⟩
theorem k109 : c109.Ok E0 hp sp.ge := con_of a109 (fun x => by kernel_rfl) cnil mnil
def a85 : An := (.s [.n, (.s [.n, (.s [.n, (.s [.n, (.s [.n, (.s [(.s [.n, (.l false 0 ⟨[I, (.list st5)], [(8, .own 3), (9, .lf I)], [.dead, .dead, .dead, .lst .nil st5]⟩ ⟨[(.list st5)], [(8, .own 3)], [.dead, .dead, .dead, .lst .nil st5]⟩ (.s [.n, (.s [(.s [.n, (.s [.n, (.s [(.s [.n, (.j false ⟨[(.list st5), (.list st4)], [(11, .own 4)], [.dead, .dead, .dead, .lst .nil st5, .lst .norm st4]⟩ .n)])])])])])]))])])])])])])])
def d85 : ConM GT := ⟨85, [.lf st2], [st2], st5, fun x => m85 x⟩
theorem l85 : d85.Ok E0 hp sp.ge := conM_of a85 (fun x => by kernel_rfl) (ccons k84 (ccons k87 (ccons k147 (ccons k149 (ccons k148 (ccons k150 (ccons k109 cnil))))))) mnil
def a86 : An := (.s [.n, (.s [.n, (.s [(.s [.n, (.l false 0 ⟨[I, (.list st5)], [(5, .own 1), (6, .lf I)], [.dead, .lst .nil st5]⟩ ⟨[(.list st5)], [(5, .own 1)], [.dead, .lst .nil st5]⟩ (.s [.n, (.s [(.s [.n, (.j false ⟨[(.list st5)], [(5, .own 1)], [.dead, .lst .nil st5]⟩ .n)])])]))])])])])
def c86 : Con GT := ⟨86, [.lf st8, .lf (.list I)], [st8, (.list I)], [(.list st5)], fun x => m86 x.1 x.2⟩
theorem k86 : c86.Ok E0 hp sp.ge := con_of a86 (fun x => by kernel_rfl) (ccons k147 (ccons k151 (ccons k109 (ccons k148 cnil)))) mnil
def a88 : An := (.s [.n, (.s [.n, (.s [(.s [.n, (.l false 0 ⟨[I, (.list st5)], [(5, .own 1), (6, .lf I)], [.dead, .lst .nil st5]⟩ ⟨[(.list st5)], [(5, .own 1)], [.dead, .lst .nil st5]⟩ (.s [.n, (.s [(.s [.n, (.l false 2 ⟨[I, (.list st5)], [(5, .own 1), (22, .lf I)], [.dead, .lst .nil st5]⟩ ⟨[(.list st5)], [(5, .own 1)], [.dead, .lst .nil st5]⟩ (.s [.n, (.s [.n, (.s [(.s [.n, (.s [.n, (.s [(.s [.n, (.l false 4 ⟨[I, (.list st5), (.list st4)], [(9, .own 2), (10, .lf I)], [.dead, .lst .nil st5, .lst .nil st4]⟩ ⟨[(.list st5), (.list st4)], [(9, .own 2)], [.dead, .lst .nil st5, .lst .nil st4]⟩ (.s [.n, (.s [(.s [.n, (.l false 6 ⟨[I, (.list st5), (.list st4)], [(9, .own 2), (11, .lf I)], [.dead, .lst .nil st5, .lst .nil st4]⟩ ⟨[(.list st5), (.list st4)], [(9, .own 2)], [.dead, .lst .nil st5, .lst .nil st4]⟩ (.s [.n, (.s [(.s [.n, (.j false ⟨[(.list st5), (.list st4)], [(9, .own 2)], [.dead, .lst .nil st5, .lst .nil st4]⟩ .n)])])]))])])]))]), (.s [.n, (.s [(.s [.n, (.j false ⟨[S, (.list st5), (.list st4)], [(12, .lf S)], [.dead, .lst .nil st5, .lst .nil st4]⟩ .n)])])])])])])])])]))])])]))])])])])
def c88 : Con GT := ⟨88, [.lf st8, .lf (.list I)], [st8, (.list I)], [(.list st5)], fun x => m88 x.1 x.2⟩
theorem k88 : c88.Ok E0 hp sp.ge := con_of a88 (fun x => by kernel_rfl) (ccons k147 (ccons k148 cnil)) mnil
def a152 : An := .n
def c152 : Con GT := ⟨152, [.lf st6], [st6], [I], fun x => m152 x⟩
theorem k152 : c152.Ok E0 hp sp.ge := con_of a152 (fun x => by kernel_rfl) cnil mnil
def a45 : An := (.s [.n, (.s [.n, (.s [.n, (.s [.n, (.s [.n, (.s [(.o [(1, (.s [.n, (.s [.n, (.s [(.s [.n, (.l false 0 ⟨[I, I, (.list S), (.list st5), (.list I), (.list I), (.list S), (.list st5), I, I, I, (.list S), (.list st5), (.list I), (.list I), (.list I), (.list I)], [(4, .lf I)], [.dead, .box [.lf I, .lf (.list S), .lf (.list st5), .lf (.list I), .lf (.list I)], .dead, .lst .norm S, .lst .norm st5, .box [.lf I, .own 3, .own 4, .c .nils, .c .nils], .box [.lf I, .own 3, .own 4, .own 8, .own 9], .box [.lf I, .lf (.list S), .lf (.list st5), .lf (.list I), .lf (.list I)], .lst .nil I, .lst .nil I]⟩ ⟨[I, (.list S), (.list st5), (.list I), (.list I), (.list S), (.list st5), I, I, I, (.list S), (.list st5), (.list I), (.list I), (.list I), (.list I)], [], [.dead, .box [.lf I, .lf (.list S), .lf (.list st5), .lf (.list I), .lf (.list I)], .dead, .lst .norm S, .lst .norm st5, .box [.lf I, .own 3, .own 4, .c .nils, .c .nils], .box [.lf I, .own 3, .own 4, .own 8, .own 9], .box [.lf I, .lf (.list S), .lf (.list st5), .lf (.list I), .lf (.list I)], .lst .nil I, .lst .nil I]⟩ .n)])])])]))])])])])])])])
def c45 : Con GT := ⟨45, [.lf st2], [st2], [st6], fun x => m45 x⟩
theorem k45 : c45.Ok E0 hp sp.ge := con_of a45 (fun x => by kernel_rfl) (ccons k84 (ccons k87 (ccons k86 (ccons k88 (ccons k152 cnil))))) (mcons l85 mnil)
def a13 : An := .n
def c13 : Con GT := ⟨13, [.lf st2], [st2], [st6, I], fun x => m13 x⟩
theorem k13 : c13.Ok E0 hp sp.ge := con_of a13 (fun x => by kernel_rfl) (ccons k44 (ccons k45 cnil)) mnil
def a46 : An := (.s [.n, (.s [.n, (.s [(.s [.n, (.l true 0 ⟨[I], [(5, .lf I)], []⟩ ⟨[], [], []⟩ .n)])])])])
def c46 : Con GT := ⟨46, [.lf (.list S), .lf (.list S)], [(.list S), (.list S)], [B], fun x => m46 x.1 x.2⟩
theorem k46 : c46.Ok E0 hp sp.ge := con_of a46 (fun x => by kernel_rfl) cnil mnil
def a111 : An := (.s [.n, (.s [.n, (.s [(.s [.n, (.l false 0 ⟨[I, I], [(5, .lf I), (6, .lf I)], [.dead]⟩ ⟨[I], [(5, .lf I)], [.dead]⟩ (.s [(.s [(.j false ⟨[B], [(16, .lf B)], [.dead]⟩ .n)])]))])])])])
def e111 (n : Nat) : Con GT := ⟨111, [.lf st4, .lf I], [st4, I], [I], fun x => n111 n x.1 x.2⟩
theorem j111 : ∀ n, (e111 n).Ok E0 hp sp.ge
  | 0 => fun x r h => nomatch h
  | n + 1 => con_of a111 (fun x => by kernel_rfl) (ccons (j111 n) cnil) mnil
def c111 : Con GT := ⟨111, [.lf st4, .lf I], [st4, I], [I], fun x => m111 x.1 x.2⟩
theorem k111 : c111.Ok E0 hp sp.ge := j111 fuel
def a112 : An := (.s [.n, (.s [.n, (.s [.n, (.s [(.s [.n, (.l true 0 ⟨[I], [(5, .lf I)], [.dead]⟩ ⟨[], [], [.dead]⟩ .n)])])])])])
def e112 (n : Nat) : Con GT := ⟨112, [.lf st4, .lf I], [st4, I], [B], fun x => n112 n x.1 x.2⟩
theorem j112 : ∀ n, (e112 n).Ok E0 hp sp.ge
  | 0 => fun x r h => nomatch h
  | n + 1 => con_of a112 (fun x => by kernel_rfl) (ccons (j112 n) cnil) mnil
def c112 : Con GT := ⟨112, [.lf st4, .lf I], [st4, I], [B], fun x => m112 x.1 x.2⟩
theorem k112 : c112.Ok E0 hp sp.ge := j112 fuel
def a63 : An := (.s [.n, (.s [(.j false ⟨[B], [(2, .lf B)], [.dead]⟩ .n)])])
def c63 : Con GT := ⟨63, [.lf st4], [st4], [B], fun x => m63 x⟩
theorem k63 : c63.Ok E0 hp sp.ge := con_of a63 (fun x => by kernel_rfl) (ccons k111 (ccons k112 cnil)) mnil
def a153 : An := (.s [.n, (.s [(.s [(.j false ⟨[B], [(26, .lf B)], [.dead, .dead]⟩ .n)]), (.s [(.s [.n, (.l true 0 ⟨[I], [(5, .lf I)], [.dead, .dead]⟩ ⟨[], [], [.dead, .dead]⟩ .n)])])])])
def e153 (n : Nat) : Con GT := ⟨153, [.lf st4, .lf st4], [st4, st4], [B], fun x => n153 n x.1 x.2⟩
theorem j153 : ∀ n, (e153 n).Ok E0 hp sp.ge
  | 0 => fun x r h => nomatch h
  | n + 1 => con_of a153 (fun x => by kernel_rfl) (ccons (j153 n) cnil) mnil
def c153 : Con GT := ⟨153, [.lf st4, .lf st4], [st4, st4], [B], fun x => m153 x.1 x.2⟩
theorem k153 : c153.Ok E0 hp sp.ge := j153 fuel
def a90 : An := (.s [.n, (.s [(.j false ⟨[B], [(4, .lf B)], [.dead, .dead]⟩ .n)])])
def c90 : Con GT := ⟨90, [.lf st4, .lf st4], [st4, st4], [B], fun x => m90 x.1 x.2⟩
theorem k90 : c90.Ok E0 hp sp.ge := con_of a90 (fun x => by kernel_rfl) (ccons k63 (ccons k153 cnil)) mnil
def a47 : An := (.s [.n, (.s [(.j false ⟨[B], [(4, .lf B)], [.dead, .dead]⟩ .n)])])
def c47 : Con GT := ⟨47, [.lf st5, .lf st5], [st5, st5], [B], fun x => m47 x.1 x.2⟩
theorem k47 : c47.Ok E0 hp sp.ge := con_of a47 (fun x => by kernel_rfl) (ccons k90 cnil) mnil
def a48 : An := (.s [.n, (.s [.n, (.s [(.s [.n, (.l true 0 ⟨[I], [(5, .lf I)], []⟩ ⟨[], [], []⟩ .n)])])])])
def c48 : Con GT := ⟨48, [.lf (.list I), .lf (.list I)], [(.list I), (.list I)], [B], fun x => m48 x.1 x.2⟩
theorem k48 : c48.Ok E0 hp sp.ge := con_of a48 (fun x => by kernel_rfl) cnil mnil
def a14 : An := (.s [.n, (.s [(.s [(.j false ⟨[B], [(27, .lf B)], [.dead, .dead]⟩ .n)]), (.s [(.s [.n, (.l true 0 ⟨[I], [(5, .lf I)], [.dead, .dead]⟩ ⟨[], [], [.dead, .dead]⟩ .n)]), (.s [(.j false ⟨[B], [(4, .lf B)], [.dead, .dead]⟩ .n)])])])])
def c14 : Con GT := ⟨14, [.lf st6, .lf st6], [st6, st6], [B], fun x => m14 x.1 x.2⟩
theorem k14 : c14.Ok E0 hp sp.ge := con_of a14 (fun x => by kernel_rfl) (ccons k46 (ccons k47 (ccons k48 cnil))) mnil
def a3 : An := (.s [.n, (.s [.n, (.s [.n, (.s [.n, (.s [(.j false ⟨[B], [(2, .lf B)], [.dead, .dead, .dead]⟩ .n)])])])])])
def c3 : Con GT := ⟨3, [.lf st2], [st2], [B], fun x => m3 x⟩
theorem k3 : c3.Ok E0 hp sp.ge := con_of a3 (fun x => by kernel_rfl) (ccons k10 (ccons k11 (ccons k12 (ccons k13 (ccons k14 cnil))))) mnil
end G33
