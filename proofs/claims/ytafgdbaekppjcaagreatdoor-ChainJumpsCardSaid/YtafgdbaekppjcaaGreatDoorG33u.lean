/- The code computes the models, printed by a program of mine (dec3.py). No condition. -/
import Derived.Test.YtafgdbaekppjcaaGreatDoorG33q
set_option linter.unusedSectionVars false
set_option linter.unusedVariables false
set_option linter.unusedSimpArgs false
namespace ck
open Go hiding Obj mark
open Go.Pl Go.Am Go.Am.As oe
def qDu:List Oh:=[.dead]
def H9u:List Oh:=[.dead,.box [.lf I,.lf (.list vG),.lf (.list I)],.box [.lf I,.lf (.list vG),.own 3],.aQ .nil I]
def YU:List Ty:=[(.list dQ)]
def Y16:List Ty:=[(.list dQ),(.list dM)]
def UM:List Oh:=[.dead,.aQ .nil dQ]
def Qsu:List Oh:=[.dead,.aQ .nil dQ,.aQ .nil dM]
def O15:Oh:= .box [.lf I,.lf (.list S),.lf (.list dQ),.lf (.list I),.lf (.list I)]
def H6u:List Oh:=[.dead,O15,.dead,.aQ .norm S,.aQ .norm dQ,.box [.lf I,.own 3,.own 4,.c .bF,.c .bF],.box [.lf I,.own 3,.own 4,.own 8,.own 9],O15,.aQ .nil I,.aQ .nil I]
def O7:Oh:= .box [.re,.re,.re,.re,.re]
def O5:Oh:= .box [.own 5,.own 6,.own 7,.own 8,.own 9]
def Fvu:List Oh:=[.dead,O7,.dead,.dead,O7,.aQ .norm I,.aQ .norm B,.aQ .norm B,.aQ .norm B,.aQ .norm I,O5]
def Y8:List Ty:=[I,(.list I),(.list B),(.list B),(.list B),(.list I),(.list I),(.list B),(.list B),(.list B),(.list I)]
def O3u:Oh:= .box [.own 16,.own 18,.own 20,.own 22,.own 24]
def H2:List Oh:=[.dead,O7,.dead,.dead,O7,.aQ .norm I,.aQ .norm B,.aQ .norm B,.aQ .norm B,.aQ .norm I,O5,.dead,O5,O7,O5,O3u,.aQ .norm I,.ew,.aQ .norm B,.ew,.aQ .norm B,.ew,.aQ .norm B,.ew,.aQ .norm I,.ew,O3u]
def Y4u:List Ty:=[(.list I),(.list B),(.list B),(.list B),(.list I),(.list I),(.list B),(.list B),(.list B),(.list I)]
def H0u:List Oh:=[.dead,O7,.dead,.dead,O3u,.aQ .norm I,.aQ .norm B,.aQ .norm B,.aQ .norm B,.aQ .norm I,O5,.dead,O5,O3u,O5,O3u,.aQ .norm I,.ew,.aQ .norm B,.ew,.aQ .norm B,.ew,.aQ .norm B,.ew,.aQ .norm I,.ew,O3u,O3u]
def O17:Oh:= .box [.own 33,.own 35,.own 37,.own 39,.own 41]
def H1u:List Oh:=[.dead,O7,.dead,.dead,O3u,.aQ .norm I,.aQ .norm B,.aQ .norm B,.aQ .norm B,.aQ .norm I,O5,.dead,O5,O3u,O5,O3u,.aQ .norm I,.ew,.aQ .norm B,.ew,.aQ .norm B,.ew,.aQ .norm B,.ew,.aQ .norm I,.ew,O3u,O3u,.dead,O3u,O7,O3u,O17,.aQ .norm I,.ew,.aQ .norm B,.ew,.aQ .norm B,.ew,.aQ .norm B,.ew,.aQ .norm I,.ew,O17]
def Yju:List Ty:=[(.list I),(.list B),(.list B),(.list B),(.list I),(.list I),(.list B),(.list B),(.list B),(.list I),(.list I),(.list B),(.list B),(.list B),(.list I)]
def adW:An:=qn<|un<|.j false ⟨[B],[(2,.lf B)],[],false⟩ .n
def adX:=cn 221 [I] [B] fun x=>VH x
theorem adY:OK adX:=aH adW (fun x=>by kernel_rfl) bh bk
def adZ:An:=qn<|un<|.j false ⟨[B],[(2,.lf B)],[],false⟩ .n
def ad0:=cn 222 [I] [B] fun x=>VI x
theorem ad1:OK ad0:=aH adZ (fun x=>by kernel_rfl) bh bk
def ad2:An:=qn<|qn<|qn<|un<|qn<|.l true 0 ⟨[I],[(3,.lf I)],qDu,false⟩ ⟨[],[],qDu,false⟩ <|qn<|un<|qn<|.s [un<|.j false ⟨[B],[(44,.lf B)],qDu,false⟩ .n,un<|.j false ⟨[B],[(62,.lf B)],qDu,false⟩ .n]
def ad3:=cn 154 [vG] [I] fun x=>Ra x
theorem ad4:OK ad3:=aH ad2 (fun x=>by kernel_rfl) (az adY (az ad1 bh)) bk
def ad5:An:=qn<|un<|qn<|.l true 0 ⟨[I],[(5,.lf I)],qDu,false⟩ ⟨[],[],qDu,false⟩ <|qn<|un<|qn<|un<|.j false ⟨[B],[(33,.lf B)],[.dead,.dead],false⟩ .n
def ad6:=cn 155 [vG,.list B] [B] fun x=>Rb x.1 x.2
theorem ad7:OK ad6:=aH ad5 (fun x=>by kernel_rfl) bh bk
def ad8:An:=qn<|qn<|un<|qn<|.l false 0 ⟨[I,(.list B)],[(6,.lf I)],[.dead,.aQ .norm B],false⟩ ⟨[(.list B)],[],[.dead,.aQ .norm B],false⟩ .n
def ad9:=cn 156 [vG,.list B] [.list B] fun x=>Lw x.1 x.2
theorem ZZ:OK ad9:=aH ad8 (fun x=>by kernel_rfl) bh bk
def a91:An:=qn<|qn<|.s [qn<|.l true 0 ⟨[(.list B),I],[(3,.lf (.list B)),(4,.lf I)],qDu,false⟩ ⟨[(.list B)],[(3,.lf (.list B))],qDu,false⟩ <|qn<|un<|qn<|qn<|un<|qn<|.l true 2 ⟨[I],[(7,.lf I)],[.dead,.dead],false⟩ ⟨[],[],[.dead,.dead],false⟩ .n,un<|qn<|.l true 4 ⟨[I],[(8,.lf I)],qDu,false⟩ ⟨[],[],qDu,false⟩ .n]
def c91:=cn 91 [uM] [I] fun x=>m91 x
theorem k91:OK c91:=aH a91 (fun x=>by kernel_rfl) (az ad4 (az ad7 (az ZZ bh))) bk
def aea:An:=qn<|un<|qn<|.l true 0 ⟨[I],[(5,.lf I)],qDu,false⟩ ⟨[],[],qDu,false⟩ .n
def aeb:=cn 157 [vG,I] [I] fun x=>Rc x.1 x.2
theorem aec:OK aeb:=aH aea (fun x=>by kernel_rfl) bh bk
def a92:An:=qn<|un<|qn<|.l true 0 ⟨[I],[(5,.lf I)],qDu,false⟩ ⟨[],[],qDu,false⟩ .n
def c92:=cn 92 [uM,I] [B] fun x=>m92 x.1 x.2
theorem k92:OK c92:=aH a92 (fun x=>by kernel_rfl) (az aec bh) bk
def a49:An:=qn<|.s [un<|.j false ⟨[B],[(12,.lf B)],qDu,false⟩ .n,qn<|qn<|qn<|un<|qn<|.l true 0 ⟨[I],[(4,.lf I)],qDu,false⟩ ⟨[],[],qDu,false⟩ .n]
def c49:=cn 49 [uM] [I] fun x=>m49 x
theorem k49:OK c49:=aH a49 (fun x=>by kernel_rfl) (az k91 (az k92 bh)) bk
def a99:An:= .n
def c99:=cn 99 [uM] [I] fun x=>KG x
theorem k99:OK c99:=aH a99 (fun x=>by kernel_rfl) bh bk
def aed:An:=qn<|qn<|un<|qn<|.l false 0 ⟨[I,I,I,(.list vG),(.list I),I,(.list vG),(.list I)],[(1,.lf I),(6,.lf I)],H9u,false⟩ ⟨[I,(.list vG),(.list I),I,(.list vG),(.list I)],[],H9u,false⟩ <|qn<|un<|.j false ⟨[I,I,(.list vG),(.list I),I,(.list vG),(.list I)],[(1,.lf I)],H9u,false⟩ .n
def aee:=cn 130 [uM,I] [Yk] fun x=>Re x.1 x.2
theorem aef:OK aee:=aH aed (fun x=>by kernel_rfl) bh bk
def a84:An:= .n
def c84:=cn 84 [uM] [Yk] fun x=>Qt x
theorem YV:OK c84:=aH a84 (fun x=>by kernel_rfl) (az k99 (az aef bh)) bk
def a75:An:=qn<|qn<|un<|qn<|.l false 0 ⟨[I,I],[(3,.lf I),(4,.lf I)],qDu,false⟩ ⟨[I],[(3,.lf I)],qDu,false⟩ <|qn<|un<|qn<|.j false ⟨[I],[(3,.lf I)],qDu,false⟩ .n
def c75:=cn 75 [Yk] [I] fun x=>m75 x
theorem k75:OK c75:=aH a75 (fun x=>by kernel_rfl) bh bk
def a44:An:= .n
def c44:=cn 44 [uM] [I] fun x=>m44 x
theorem k44:OK c44:=aH a44 (fun x=>by kernel_rfl) (az k49 (az YV (az k75 bh))) bk
def a87:An:=qn<|qn<|qn<|un<|qn<|.l false 0 ⟨[I,(.list I)],[(3,.own 1),(4,.lf I)],[.dead,.aQ .nil I],false⟩ ⟨[(.list I)],[(3,.own 1)],[.dead,.aQ .nil I],false⟩ .n
def c87:=cn 87 [uM] [.list I] fun x=>Tu x
theorem k87:OK c87:=aH a87 (fun x=>by kernel_rfl) (az k99 bh) bk
def aeg:An:= .n
def aeh:=cn 147 [I] [dM] fun x=>y6 x
theorem Lx:OK aeh:=aH aeg (fun x=>by kernel_rfl) bh bk
def aei:An:=qn<|qn<|un<|qn<|.l false 0 ⟨[I,(.list dM)],[(3,.own 1),(4,.lf I)],[.dead,.aQ .nil dM],false⟩ ⟨[(.list dM)],[(3,.own 1)],[.dead,.aQ .nil dM],false⟩ <|qn<|un<|qn<|un<|qn<|.j false ⟨[I,(.list dM)],[(5,.lf I)],[.dead,.aQ .nil dM],false⟩ .n
def aej:=cn 151 [vG] [.list dM] fun x=>Lj x
theorem Z0:OK aej:=aH aei (fun x=>by kernel_rfl) (az Lx bh) bk
def aek:An:= .n
def ael:=cn 149 [Yk,I] [.list dM] fun x=>JQ x.1 x.2
theorem Z1:OK ael:=aH aek (fun x=>by kernel_rfl) (az Lx (az Z0 bh)) bk
def aem:An:= .n
def aen:=cn 148 [I,.list dM] [dM] fun x=>uT x.1 x.2
theorem Rf:OK aen:=aH aem (fun x=>by kernel_rfl) bh bk
def aeo:An:= .n
def aep:=cn 150 [uM,I] [dM] fun x=>VJ x.1 x.2
theorem aeq:OK aep:=aH aeo (fun x=>by kernel_rfl) (az YV (az Z1 (az Rf bh))) bk
def aer:An:=qn<|qn<|un<|qn<|.l false 0 ⟨[S,I],[(5,.lf S),(6,.lf I)],[],false⟩ ⟨[S],[(5,.lf S)],[],false⟩ <|un<|un<|.j false ⟨[B],[(13,.lf B)],[],false⟩ .n
def aes:=cn 109 [S,I] [S] fun x=>FL x.1 x.2
theorem Z2:OK aes:=aH aer (fun x=>by kernel_rfl) bh bk
def a85:An:=qn<|qn<|qn<|qn<|qn<|un<|qn<|.l false 0 ⟨[I,(.list dQ)],[(8,.own 3),(9,.lf I)],[.dead,.dead,.dead,.aQ .nil dQ],false⟩ ⟨YU,[(8,.own 3)],[.dead,.dead,.dead,.aQ .nil dQ],false⟩ <|qn<|un<|qn<|qn<|un<|qn<|.j false ⟨Y16,[(11,.own 4)],[.dead,.dead,.dead,.aQ .nil dQ,.aQ .norm dM],false⟩ .n
def d85:dG GT:=⟨85,[.lf uM],[uM],dQ,fun x=>m85 x⟩
theorem l85:d85.Ok E0 hp sp.ge:=oo a85 (fun x=>by kernel_rfl) (az YV (az k87 (az Lx (az Z1 (az Rf (az aeq (az Z2 bh))))))) bk
def a86:An:=qn<|qn<|un<|qn<|.l false 0 ⟨[I,(.list dQ)],[(5,.own 1),(6,.lf I)],UM,false⟩ ⟨YU,[(5,.own 1)],UM,false⟩ <|qn<|un<|qn<|.j false ⟨YU,[(5,.own 1)],UM,false⟩ .n
def c86:=cn 86 [Yk,.list I] [.list dQ] fun x=>m86 x.1 x.2
theorem k86:OK c86:=aH a86 (fun x=>by kernel_rfl) (az Lx (az Z0 (az Z2 (az Rf bh)))) bk
def a88:An:=qn<|qn<|un<|qn<|.l false 0 ⟨[I,(.list dQ)],[(5,.own 1),(6,.lf I)],UM,false⟩ ⟨YU,[(5,.own 1)],UM,false⟩ <|qn<|un<|qn<|.l false 2 ⟨[I,(.list dQ)],[(5,.own 1),(22,.lf I)],UM,false⟩ ⟨YU,[(5,.own 1)],UM,false⟩ <|qn<|qn<|un<|qn<|qn<|.s [qn<|.l false 4 ⟨[I,(.list dQ),(.list dM)],[(9,.own 2),(10,.lf I)],Qsu,false⟩ ⟨Y16,[(9,.own 2)],Qsu,false⟩ <|qn<|un<|qn<|.l false 6 ⟨[I,(.list dQ),(.list dM)],[(9,.own 2),(11,.lf I)],Qsu,false⟩ ⟨Y16,[(9,.own 2)],Qsu,false⟩ <|qn<|un<|qn<|.j false ⟨Y16,[(9,.own 2)],Qsu,false⟩ .n,qn<|un<|qn<|.j false ⟨[S,(.list dQ),(.list dM)],[(12,.lf S)],Qsu,false⟩ .n]
def c88:=cn 88 [Yk,.list I] [.list dQ] fun x=>m88 x.1 x.2
theorem k88:OK c88:=aH a88 (fun x=>by kernel_rfl) (az Lx (az Rf bh)) bk
def aet:An:= .n
def aeu:=cn 152 [Jw] [I] fun x=>nc x
theorem aev:OK aeu:=aH aet (fun x=>by kernel_rfl) bh bk
def a45:An:=qn<|qn<|qn<|qn<|qn<|un<|.o [(1,qn<|qn<|un<|qn<|.l false 0 ⟨[I,I,(.list S),(.list dQ),(.list I),(.list I),(.list S),(.list dQ),I,I,I,(.list S),(.list dQ),(.list I),(.list I),(.list I),(.list I)],[(4,.lf I)],H6u,false⟩ ⟨[I,(.list S),(.list dQ),(.list I),(.list I),(.list S),(.list dQ),I,I,I,(.list S),(.list dQ),(.list I),(.list I),(.list I),(.list I)],[],H6u,false⟩ .n)]
def c45:=cn 45 [uM] [Jw] fun x=>m45 x
theorem k45:OK c45:=aH a45 (fun x=>by kernel_rfl) (az YV (az k87 (az k86 (az k88 (az aev bh))))) (uh l85 bk)
def a93:An:=qn<|qn<|un<|qn<|.l false 0 ⟨[I,(.list B)],[(5,.own 2),(6,.lf I)],[.dead,.dead,.aQ .nil B],false⟩ ⟨[(.list B)],[(5,.own 2)],[.dead,.dead,.aQ .nil B],false⟩ .n
def d93:dG GT:=⟨93,[.lf Jw,.lf KN],[Jw,KN],B,fun x=>XW x.1 x.2⟩
theorem l93:d93.Ok E0 hp sp.ge:=oo a93 (fun x=>by kernel_rfl) bh bk
def aew:An:=qn<|qn<|qn<|.s [qn<|.l false 1 ⟨[B,B,I],[(5,.lf B),(6,.lf B),(7,.lf I)],qDu,false⟩ ⟨[B,B],[(5,.lf B),(6,.lf B)],qDu,false⟩ <|qn<|un<|qn<|.j false ⟨[B,B],[(5,.lf B),(6,.lf B)],qDu,false⟩ .n,un<|.j false ⟨[B],[(4,.lf B)],qDu,false⟩ .n]
def aex (n:Nat):gS GT:=⟨163,[.lf dM,.lf (.list B)],[dM,(.list B)],[B],fun x=>Bh n x.1 x.2⟩
theorem Z3:∀ n,(aex n).Ok E0 hp sp.ge
 | 0=>fun x r h=>nomatch h
 | n+1=>aH aew (fun x=>by kernel_rfl) (az (Z3 n) bh) bk
def aey:=cn 163 [dM,.list B] [B] fun x=>Lg x.1 x.2
theorem aez:OK aey:=Z3 fuel
def a98:An:=qn<|qn<|un<|qn<|.l false 0 ⟨[(.list B),I],[(5,.lf (.list B)),(6,.lf I)],qDu,false⟩ ⟨[(.list B)],[(5,.lf (.list B))],qDu,false⟩ .n
def c98:=cn 98 [uM,I] [.list B] fun x=>m98 x.1 x.2
theorem k98:OK c98:=aH a98 (fun x=>by kernel_rfl) (az ZZ bh) bk
def a55:An:=qn<|qn<|.s [.o [(1,qn<|qn<|.s [qn<|.l false 0 ⟨[I,(.list I),(.list B),(.list B),(.list B),(.list I)],[(4,.lf I)],Fvu,true⟩ ⟨[(.list I),(.list B),(.list B),(.list B),(.list I)],[],Fvu,true⟩ .n,un<|.o [(2,qn<|qn<|un<|qn<|.l false 0 ⟨Y8,[(6,.lf I)],H2,true⟩ ⟨Y4u,[],H2,true⟩ <|qn<|un<|qn<|.j false ⟨Y4u,[],H2,true⟩ .n)]])],qn<|.s [qn<|.l false 0 ⟨Y8,[(8,.lf I)],H0u,true⟩ ⟨Y4u,[],H0u,true⟩ <|qn<|un<|qn<|qn<|.j false ⟨Y4u,[],H0u,true⟩ .n,qn<|.s [qn<|.l false 2 ⟨Y8,[(10,.lf I)],H0u,true⟩ ⟨Y4u,[],H0u,true⟩ .n,.s [qn<|qn<|.j false ⟨Y4u,[],H0u,true⟩ .n,un<|.o [(2,qn<|qn<|un<|qn<|.l false 0 ⟨[I,(.list I),(.list B),(.list B),(.list B),(.list I),(.list I),(.list B),(.list B),(.list B),(.list I),(.list I),(.list B),(.list B),(.list B),(.list I)],[(6,.lf I)],H1u,true⟩ ⟨Yju,[],H1u,true⟩ <|qn<|un<|qn<|.j false ⟨Yju,[],H1u,true⟩ .n)]]]]]
def c55:=cn 55 [uM,I] [KN] fun x=>m55 x.1 x.2
theorem k55:OK c55:=aH a55 (fun x=>by kernel_rfl) (az k45 (az aez (az k98 (az k87 (az k99 (az YV bh)))))) (uh l93 bk)
def a23:An:=qn<|qn<|un<|un<|.j false ⟨[B,(.list I),(.list B),(.list B),(.list B),(.list I)],[(21,.lf B)],[.dead,.box [.lf (.list I),.lf (.list B),.lf (.list B),.lf (.list B),.lf (.list I)]],false⟩ .n
def c23:=cn 23 [uM,I] [KN,I] fun x=>Yf x.1 x.2
theorem k23:OK c23:=aH a23 (fun x=>by kernel_rfl) (az k44 (az k55 bh)) bk
def a48:An:=qn<|qn<|un<|qn<|.l true 0 ⟨[I],[(5,.lf I)],[],false⟩ ⟨[],[],[],false⟩ .n
def c48:=cn 48 [.list I,.list I] [B] fun x=>YN x.1 x.2
theorem k48:OK c48:=aH a48 (fun x=>by kernel_rfl) bh bk
def a56:An:=qn<|qn<|un<|qn<|.l true 0 ⟨[I],[(5,.lf I)],[],false⟩ ⟨[],[],[],false⟩ .n
def c56:=cn 56 [.list B,.list B] [B] fun x=>Yd x.1 x.2
theorem k56:OK c56:=aH a56 (fun x=>by kernel_rfl) bh bk
def a24:An:=qn<|un<|.j false ⟨[B],[(4,.lf B)],[.dead,.dead],false⟩ .n
def c24:=cn 24 [KN,KN] [B] fun x=>Ye x.1 x.2
theorem k24:OK c24:=aH a24 (fun x=>by kernel_rfl) (az k48 (az k56 bh)) bk
def a5:An:=qn<|qn<|qn<|qn<|un<|.j false ⟨[B],[(4,.lf B)],[.dead,.dead,.dead],false⟩ .n
def c5:=cn 5 [uM,I] [B] fun x=>m5 x.1 x.2
theorem k5:OK c5:=aH a5 (fun x=>by kernel_rfl) (az k10 (az k11 (az k22 (az k23 (az k24 bh))))) bk
end ck
