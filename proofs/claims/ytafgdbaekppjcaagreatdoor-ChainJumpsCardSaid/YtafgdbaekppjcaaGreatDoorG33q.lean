/- The code computes the models, printed by a program of mine (dec3.py). No condition. -/
import Derived.Test.YtafgdbaekppjcaaGreatDoorG33p
set_option linter.unusedSectionVars false
set_option linter.unusedVariables false
set_option linter.unusedSimpArgs false
namespace ck
open Go hiding Obj mark
open Go.Pl Go.Am Go.Am.As oe
def Y5q:List Ty:=[I,(.list B),(.list I),(.list B),(.list B),(.list B),(.list I)]
def O1:Oh:= .box [.re,.re,.re,.re,.re]
def O3q:Oh:= .box [.own 6,.own 7,.own 8,.own 9,.own 10]
def Qs:List Oh:=[.dead,.dead,O1,.dead,.dead,O1,.aQ .norm I,.aQ .norm B,.aQ .norm B,.aQ .norm B,.aQ .norm I,O3q,O3q,.aQ .nil B]
def Y7q:List Ty:=[(.list B),(.list I),(.list B),(.list B),(.list B),(.list I)]
def H9q:List Oh:=[.dead,.dead,O1,.dead,.dead,O1,.aQ .norm I,.aQ .norm B,.aQ .norm B,.aQ .norm B,.aQ .norm I,O3q,O3q,.aQ .nil B,.ew,.ew]
def Y4:List Ty:=[(.list I),(.list B),(.list B),(.list B),(.list I)]
def Yj:List Ty:=[I,(.list I),(.list B),(.list B),(.list B),(.list I)]
def O2:Oh:= .box [.own 14,.own 15,.own 16,.own 17,.own 18]
def H8q:List Oh:=[.dead,O1,.dead,.dead,O1,.dead,.dead,.dead,.dead,.dead,.dead,.dead,.dead,O1,.aQ .norm I,.aQ .norm B,.aQ .norm B,.aQ .norm B,.aQ .norm I,O2,O2,.aQ .nil B]
def H6q:List Oh:=[.dead,O1,.dead,.dead,O1,.dead,.dead,.dead,.dead,.dead,.dead,.dead,.dead,O1,.aQ .norm I,.aQ .norm B,.aQ .norm B,.aQ .norm B,.aQ .norm I,O2,O2,.aQ .nil B,.ew,.ew]
def H0:List Oh:=[.dead,O1,.dead,.dead,O2,.dead,.dead,.dead,.dead,.dead,.dead,.dead,.dead,O2,.aQ .norm I,.aQ .norm B,.aQ .norm B,.aQ .norm B,.aQ .norm I,O2,O2,O2]
def a54:An:=qn<|qn<|un<|.o [(2,qn<|qn<|.s [.o [(1,qn<|qn<|un<|qn<|.l false 0 ⟨Y5q,[(3,.own 13),(9,.lf I)],Qs,true⟩ ⟨Y7q,[(3,.own 13)],Qs,true⟩ .n)],un<|qn<|.l false 0 ⟨Y5q,[(32,.lf I)],H9q,true⟩ ⟨Y4,[],[.dead,.dead,O1,.dead,.dead,O1,.aQ .norm I,.aQ .norm B,.aQ .norm B,.aQ .norm B,.aQ .norm I,O3q,O3q],true⟩ <|qn<|qn<|un<|qn<|qn<|.j false ⟨Y7q,[],H9q,true⟩ .n])]
def c54:=cn 54 [Jw,KN] [KN,I] fun x=>m54 x.1 x.2
theorem k54:OK c54:=aH a54 (fun x=>by kernel_rfl) (az k52 (az Zv (az K4 bh))) (uh Zu (uh l96 bk))
def a22:An:=qn<|qn<|qn<|.s [un<|.j false ⟨[B],[(34,.lf B)],[.dead,O1,.dead],true⟩ .n,.s [.o [(1,qn<|qn<|qn<|qn<|.s [qn<|.l false 0 ⟨Yj,[(36,.lf I)],[.dead,O1,.dead,.dead,O1,.aQ .norm I,.aQ .norm B,.aQ .norm B,.aQ .norm B,.aQ .norm I,.box [.own 5,.own 6,.own 7,.own 8,.own 9]],true⟩ ⟨Y4,[(6,.bR [.lf (.list I),.lf (.list B),.lf (.list B),.lf (.list B),.lf (.list I)])],[.dead,O1,.dead,.dead,O1,.dead,.dead,.dead,.dead,.dead,.dead],true⟩ .n,un<|.o [(2,qn<|qn<|.s [.o [(1,qn<|qn<|un<|qn<|.l false 0 ⟨Y5q,[(3,.own 21),(9,.lf I)],H8q,true⟩ ⟨Y7q,[(3,.own 21)],H8q,true⟩ .n)],un<|qn<|.l false 0 ⟨Y5q,[(32,.lf I)],H6q,true⟩ ⟨Y4,[],[.dead,O1,.dead,.dead,O1,.dead,.dead,.dead,.dead,.dead,.dead,.dead,.dead,O1,.aQ .norm I,.aQ .norm B,.aQ .norm B,.aQ .norm B,.aQ .norm I,O2,O2],true⟩ <|qn<|qn<|un<|qn<|qn<|.j false ⟨Y7q,[],H6q,true⟩ .n])]])],.s [qn<|qn<|.zl 22 .n,qn<|qn<|.s [qn<|.l false 0 ⟨Yj,[(58,.lf I)],H0,true⟩ ⟨Y4,[],H0,true⟩ <|qn<|qn<|un<|qn<|qn<|qn<|.j false ⟨Y4,[],H0,true⟩ .n,.s [qn<|.l false 2 ⟨Yj,[(79,.lf I)],H0,true⟩ ⟨Y4,[],H0,true⟩ .n,un<|qn<|qn<|.j false ⟨Y4,[(9,.bR [.lf (.list I),.lf (.list B),.lf (.list B),.lf (.list B),.lf (.list I)])],[.dead,O1,.dead,.dead],true⟩ .n]]]]]
def c22:=cn 22 [uM,I] [KN,I] fun x=>UG x.1 x.2
theorem k22:OK c22:=aH a22 (fun x=>by kernel_rfl) (az k43 (az k64 (az Zv (az K4 (az k53 (az k54 bh)))))) (uh Zu (uh l96 bk))
end ck
