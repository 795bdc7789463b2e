/- Parts of my machine and its laws, joined: G33a G33p. No condition. -/
import Derived.Test.YtafgdbaekppjcaaGreatDoorG33D
import Derived.Test.YtafgdbaekppjcaaGreatDoorG33w0
import Derived.Test.YtafgdbaekppjcaaGreatDoorG33w1
import Derived.Test.YtafgdbaekppjcaaGreatDoorG33w2
import Derived.Test.YtafgdbaekppjcaaGreatDoorG33w3
import Derived.Test.YtafgdbaekppjcaaGreatDoorG33w4
set_option linter.unusedSectionVars false
set_option linter.unusedVariables false
set_option linter.unusedSimpArgs false
section
namespace cK
open Go hiding Obj mark
open Go.Pl Go.Am Go.Am.As oZ
theorem Ud:∃ N,jA E0 hp t55 N:=known (known (known (known (known (known (known (known (known (known (known (known (known (known (known (known (known (known (known (known (known (known (known (known (known (known (known (known (known (known (known (known (known (known (known (known (known (known (known (known (known (known (known (known (known (known (known (known (known (known (known (known (known (known (known ⟨0,jA.nil⟩ w0) w1) w2) w3) w4) w5) w6) w7) w8) w9) Js) tZ) y5) y6) j6) lW) w16) w17) NZ) BW) m8) Wt) r9) w23) w24) w25) w26) w27) F3) w29) Et) w31) w32) nc) w34) lV) w36) od) w38) w39) w40) w41) w42) BX) w44) BR) w46) w47) BY) w49) w50) w51) w52) w53) HT
def c25:j3 GT:=⟨25,[],[],[B],fun _=>ZX⟩
theorem k25:c25.Ok E0 hp sp.ge:=fun _ r hr=>by
 obtain ⟨N,h⟩:=Ud;obtain rfl:true=r:=zbm hr;exact h.pt (f:=25) (xs:=[]) (r:=b true) (by kernel_rfl)
end cK
end
section
namespace cK
open Go hiding Obj mark
open Go.Pl Go.Am Go.Am.As oZ
def cn (f:Nat) (ts rs:List Ty) (m:DL GT ts->Option (DL GT rs)):j3 GT:=⟨f,ts.map .lf,ts,rs,m⟩
abbrev OK (c:j3 GT):Prop:=c.Ok E0 hp sp.ge
def qn (a:An):An:= .s [.n,a]
def un (a:An):An:= .s [a]
def nh:List Oh:=[.dead]
def Wu:Tm:=⟨[I],[(3,.lf I)],nh⟩
def AB:Tm:=⟨[],[],nh⟩
def Wv:Tm:=⟨[B],[(2,.lf B)],[]⟩
def NN:List (Nat×Sh):=[(5,.lf I)]
def N3:Tm:=⟨[I],NN,nh⟩
def qt:List Oh:=[.dead,.dead]
def VW:Tm:=⟨[],[],qt⟩
def NO:List (Nat×Sh):=[(8,.lf I)]
def Ww:Tm:=⟨[B],[(2,.lf B)],nh⟩
def Z3:List Oh:=[.dead,.dead,.arr 6 B]
def Y65:List Ty:=[I,(.arr 6 B),(.arr 6 B)]
def Y71:List Ty:=[(.arr 6 B),(.arr 6 B)]
def Wx:Tm:=⟨[],[],[]⟩
def Su:List Oh:=[.dead,.aL .norm I]
def Sv:List Ty:=[(.list I)]
def VX:List Ty:=[I,(.list I)]
def Y5:List Ty:=[I,(.list S),I,(.list oP),(.list I),I,(.list I),(.list I),(.list I),(.list dS),(.list I),(.list I)]
def O0:Oh:= .box [.lf I,.lf (.list oP),.lf (.list I),.own 3,.own 4,.own 5,.lf I,.own 1,.own 6,.own 7,.own 8]
def Wy:List Oh:=[.dead,.aL .norm S,O0,.aL .nil I,.aL .nil I,.aL .nil I,.aL .nil dS,.aL .nil I,.aL .nil I]
def Y6:List Ty:=[(.list S),I,(.list oP),(.list I),I,(.list I),(.list I),(.list I),(.list dS),(.list I),(.list I)]
def Z4:Tm:=⟨Y6,[],Wy⟩
def Y28:List Ty:=[I,I,(.list S),I,(.list oP),(.list I),I,(.list I),(.list I),(.list I),(.list dS),(.list I),(.list I)]
def H2:List Oh:=[.dead,.aL .norm S,O0,.aL .nil I,.aL .nil I,.aL .nil I,.aL .nil dS,.aL .nil I,.aL .nil I,.rws .norm 1 [[.b8 103 [.aA 2 1 0 0]],[.b8 104 [.aA 2 1 0 0]],[.b8 105 [.aA 2 1 0 0]],[.b8 106 [.aA 2 1 0 0]]]]
def Z5:List Ty:=[(.list dw),(.list S),I,(.list oP),(.list I),I,(.list I),(.list I),(.list I),(.list dS),(.list I),(.list I)]
def H4:List Oh:=[.dead,.aL .norm S,O0,.aL .nil I,.aL .nil I,.aL .nil I,.aL .nil dS,.aL .nil I,.aL .nil I,.rws .norm 1 [[.b8 103 [.aA 2 1 0 0]],[.b8 104 [.aA 2 1 0 0]],[.b8 105 [.aA 2 1 0 0]],[.b8 106 [.aA 2 1 0 0]]],.dead]
def Y7:List Ty:=[I,(.list S),I,(.list oP),(.list I),I,(.list I),(.list I),(.list I),(.list dS),(.list I),(.list I),(.list dw)]
def H3:List Oh:=[.dead,.aL .norm S,O0,.aL .nil I,.aL .nil I,.aL .nil I,.aL .nil dS,.aL .nil I,.aL .nil I,.rws .norm 1 [[.b8 103 [.aA 2 1 0 0]],[.b8 104 [.aA 2 1 0 0]],[.b8 105 [.aA 2 1 0 0]],[.b8 106 [.aA 2 1 0 0]]],.aL .nil dw]
def M47:Tm:=⟨Y7,[(5,.own 10),(19,.lf I)],H3⟩
def Y12:List Ty:=[(.list S),I,(.list oP),(.list I),I,(.list I),(.list I),(.list I),(.list dS),(.list I),(.list I),(.list dw)]
def Z6:Tm:=⟨Y12,[(5,.own 10)],H3⟩
def Z7:List Oh:=[.dead,.aL .norm S,O0,.aL .nil I,.aL .nil I,.aL .nil I,.aL .nil dS,.aL .nil I,.aL .nil I,.rws .norm 1 [[.b8 103 [.aA 2 1 0 0]],[.b8 104 [.aA 2 1 0 0]],[.b8 105 [.aA 2 1 0 0]],[.b8 106 [.aA 2 1 0 0]]],.aL .nil dw,.dead]
def Y26:List Ty:=[dw,(.list S),I,(.list oP),(.list I),I,(.list I),(.list I),(.list I),(.list dS),(.list I),(.list I),I,I,(.list dw)]
def NP:Oh:= .box [.lf I,.lf I,.lf (.list dw)]
def H9:List Oh:=[.dead,.aL .norm S,O0,.aL .nil I,.aL .nil I,.aL .nil I,.aL .nil dS,.aL .nil I,.aL .nil I,.rws .norm 1 [[.b8 103 [.aA 2 1 0 0]],[.b8 104 [.aA 2 1 0 0]],[.b8 105 [.aA 2 1 0 0]],[.b8 106 [.aA 2 1 0 0]]],.dead,NP]
def Y37:List Ty:=[I,(.list S),I,(.list oP),(.list I),I,(.list I),(.list I),(.list I),(.list dS),(.list I),(.list I),I,I,(.list dw),(.list dw)]
def H23:List Oh:=[.dead,.aL .norm S,O0,.aL .nil I,.aL .nil I,.aL .nil I,.aL .nil dS,.aL .nil I,.aL .nil I,.rws .norm 1 [[.b8 103 [.aA 2 1 0 0]],[.b8 104 [.aA 2 1 0 0]],[.b8 105 [.aA 2 1 0 0]],[.b8 106 [.aA 2 1 0 0]]],.dead,NP,.aL .nil dw]
def Y20:List Ty:=[dw,(.list S),I,(.list oP),(.list I),I,(.list I),(.list I),(.list I),(.list dS),(.list I),(.list I),I,I,(.list dw),I,I,(.list dw)]
def H24:List Oh:=[.dead,.aL .norm S,O0,.aL .nil I,.aL .nil I,.aL .nil I,.aL .nil dS,.aL .nil I,.aL .nil I,.rws .norm 1 [[.b8 103 [.aA 2 1 0 0]],[.b8 104 [.aA 2 1 0 0]],[.b8 105 [.aA 2 1 0 0]],[.b8 106 [.aA 2 1 0 0]]],.dead,NP,.dead,NP]
def VY:Tm:=⟨Y6,[],H2⟩
def H25:List Oh:=[.dead,.aL .norm S,O0,.aL .nil I,.aL .nil I,.aL .nil I,.aL .nil dS,.aL .nil I,.aL .nil I,.rws .norm 1 [[.b8 103 [.aA 2 1 0 0]],[.b8 104 [.aA 2 1 0 0]],[.b8 105 [.aA 2 1 0 0]],[.b8 106 [.aA 2 1 0 0]]],.dead,.aL .nil dw]
def Wz:List Ty:=[B,(.list S),(.list I),I,(.list S),(.list dS),(.list I),(.list I)]
def O1:Oh:= .box [.lf I,.lf (.list S),.lf (.list dS),.lf (.list I),.lf (.list I),.c (.mp 2),.c (.b8 179 [.aA 3 1 0 0]),.c (.b8 180 [.aA 3 1 0 0]),.c (.b8 181 [.aA 3 1 0 0])]
def Ji:List Oh:=[.dead,.dead,.mT,O1]
def Rj:List Ty:=[I,(.list S),(.list I),I,(.list S),(.list dS),(.list I),(.list I)]
def VZ:List Oh:=[.lp .busy 999]
def Ew:Oh:= .box [.lf I]
def O54:Oh:= .box [.fn 265 [.po 8 0,.po 9 0]]
def H18:List Oh:=[.dead,Ew,Ew,.box [.lf B],Ew,Ew,.dead,.lp .ready 0,.box [.c (.fI 7)],O54]
def M59:Tm:=⟨[B],[(14,.lf B)],nh⟩
def M64:Tm:=⟨[I],[(6,.lf I)],qt⟩
def M60:Tm:=⟨[B],[(49,.lf B)],qt⟩
def H31:List Oh:=[.dead,.dead,Ew,.dead,.lp .ready 0,.box [.c (.fI 4)],.box [.fn 265 [.po 5 0,.po 6 0]]]
def H58:List Oh:=[.dead,.dead,.mT,O1,.dead]
def Z8:List Ty:=[(.list S),(.list I),I,(.list S),(.list dS),(.list I),(.list I),B,I]
def H8:List Oh:=[.dead,.dead,.mT,O1,.box [.po 3 0],.dead,.dead,.box [.lf B],.dead,.box [.fn 228 [.po 4 0,.po 7 0,.bZ [.lf I]]],.box [.fn 255 [.po 9 0,.po 10 0]]]
def Y49:List Ty:=[I,(.list S),(.list I),I,(.list S),(.list dS),(.list I),(.list I),B,I]
def M34:Tm:=⟨[(.list S),(.list I),I,(.list S),(.list dS),(.list I),(.list I)],[],Ji⟩
def H69:List Oh:=[.dead,.dead,.mT,O1,.aL .norm (.list I)]
def H57:List Oh:=[.dead,.dead,.mT,O1,.aL .norm (.list I),.aL .norm I]
def L72:List (Nat×Sh):=[(3,.own 1),(4,.lf I)]
def H30:List Oh:=[.dead,.box [.lf I,.lf (.list oP),.lf (.list I)],.box [.lf I,.lf (.list oP),.own 3],.aL .nil I]
def Z9:List Oh:=[.dead,.aL .nil I]
def WA:List Oh:=[.dead,.aL .nil dS]
def M63:Tm:=⟨[I,(.list dS)],[(5,.own 1),(6,.lf I)],WA⟩
def M35:Tm:=⟨[(.list dS)],[(5,.own 1)],WA⟩
def H33:List Oh:=[.dead,.aL .nil dS,.aL .nil dw]
def M40:Tm:=⟨[(.list dS),(.list dw)],[(9,.own 2)],H33⟩
def O16:Oh:= .box [.lf I,.lf (.list S),.lf (.list dS),.lf (.list I),.lf (.list I)]
def O70:Oh:= .box [.lf I,.own 3,.own 4,.c .bD,.c .bD]
def H43:List Oh:=[.dead,O16,.dead,.aL .norm S,.aL .norm dS,O70]
def H32:List Oh:=[.dead,O16,.dead,.aL .norm S,.aL .norm dS,O70,.box [.lf I,.own 3,.own 4,.own 8,.own 9],O16,.aL .nil I,.aL .nil I]
def M50:Tm:=⟨[I],[(6,.lf I)],nh⟩
def a10:An:=qn<|qn<|un<|qn<|.l true 0 Wu AB .n
def c10:=cn 10 [sn] [B] fun x=>m10 x
theorem k10:OK c10:=aD a10 (fun x=>by kernel_rfl) aX aY
def aag:An:=qn<|un<|.j false Wv .n
def aah:=cn 221 [I] [B] fun x=>S2 x
theorem aai:OK aah:=aD aag (fun x=>by kernel_rfl) aX aY
def aaj:An:=qn<|un<|.j false Wv .n
def aak:=cn 222 [I] [B] fun x=>S3 x
theorem aal:OK aak:=aD aaj (fun x=>by kernel_rfl) aX aY
def aam:An:=qn<|qn<|qn<|un<|qn<|.l true 0 Wu AB <|qn<|un<|qn<|.s [un<|.j false ⟨[B],[(44,.lf B)],nh⟩ .n,un<|.j false ⟨[B],[(62,.lf B)],nh⟩ .n]
def aan:=cn 154 [oP] [I] fun x=>Om x
theorem aao:OK aan:=aD aam (fun x=>by kernel_rfl) (az aai (az aal aX)) aY
def aap:An:=qn<|un<|qn<|.l true 0 N3 AB <|qn<|un<|qn<|un<|.j false ⟨[B],[(33,.lf B)],qt⟩ .n
def aaq:=cn 155 [oP,.list B] [B] fun x=>Oo x.1 x.2
theorem aar:OK aaq:=aD aap (fun x=>by kernel_rfl) aX aY
def aas:An:=qn<|qn<|un<|qn<|.l false 0 ⟨[I,(.list B)],[(6,.lf I)],[.dead,.aL .norm B]⟩ ⟨[(.list B)],[],[.dead,.aL .norm B]⟩ .n
def aat:=cn 156 [oP,.list B] [.list B] fun x=>Oq x.1 x.2
theorem aau:OK aat:=aD aas (fun x=>by kernel_rfl) aX aY
def a91:An:=qn<|qn<|.s [qn<|.l true 0 ⟨[(.list B),I],[(3,.lf (.list B)),(4,.lf I)],nh⟩ ⟨[(.list B)],[(3,.lf (.list B))],nh⟩ <|qn<|un<|qn<|qn<|un<|qn<|.l true 2 ⟨[I],[(7,.lf I)],qt⟩ VW .n,un<|qn<|.l true 4 ⟨[I],NO,nh⟩ AB .n]
def c91:=cn 91 [sn] [I] fun x=>m91 x
theorem k91:OK c91:=aD a91 (fun x=>by kernel_rfl) (az aao (az aar (az aau aX))) aY
def aav:An:=qn<|un<|qn<|.l true 0 N3 AB .n
def aaw:=cn 157 [oP,I] [I] fun x=>Ih x.1 x.2
theorem Xn:OK aaw:=aD aav (fun x=>by kernel_rfl) aX aY
def a92:An:=qn<|un<|qn<|.l true 0 N3 AB .n
def c92:=cn 92 [sn,I] [B] fun x=>m92 x.1 x.2
theorem k92:OK c92:=aD a92 (fun x=>by kernel_rfl) (az Xn aX) aY
def a49:An:=qn<|.s [un<|.j false ⟨[B],[(12,.lf B)],nh⟩ .n,qn<|qn<|qn<|un<|qn<|.l true 0 ⟨[I],[(4,.lf I)],nh⟩ AB .n]
def c49:=cn 49 [sn] [I] fun x=>V0 x
theorem k49:OK c49:=aD a49 (fun x=>by kernel_rfl) (az k91 (az k92 aX)) aY
def a15:An:=qn<|un<|.j false Ww .n
def c15:=cn 15 [sn] [B] fun x=>m15 x
theorem k15:OK c15:=aD a15 (fun x=>by kernel_rfl) (az k10 (az k49 aX)) aY
def a16:An:=qn<|un<|.j false Ww .n
def c16:=cn 16 [Jv] [B] fun x=>m16 x
theorem k16:OK c16:=aD a16 (fun x=>by kernel_rfl) aX aY
def aax:An:=qn<|un<|.j false Wv .n
def aay:=cn 250 [I] [B] fun x=>S4 x
theorem aaz:OK aay:=aD aax (fun x=>by kernel_rfl) aX aY
def aaA:An:=qn<|qn<|qn<|.s [qn<|.l true 1 ⟨[I,I],[(4,.lf I),(19,.lf I)],nh⟩ AB .n,un<|un<|.j false ⟨[B],[(48,.lf B)],nh⟩ .n]
def aaB:=cn 212 [oP] [I] fun x=>Ot x
theorem aaC:OK aaB:=aD aaA (fun x=>by kernel_rfl) (az aaz aX) aY
def aaD:An:=qn<|qn<|.s [qn<|.l true 0 ⟨[I,(.arr 6 B)],[(20,.lf I)],Z3⟩ ⟨[(.arr 6 B)],[],Z3⟩ .n,un<|qn<|.l true 2 ⟨[I,(.arr 6 B)],[(33,.lf I)],Z3⟩ ⟨[(.arr 6 B)],[],Z3⟩ .n]
def aaE:=cn 139 [sn,oP,.arr 6 B] [I] fun x=>Ou x.1 x.2.1 x.2.2
theorem aaF:OK aaE:=aD aaD (fun x=>by kernel_rfl) (az aaC aX) aY
def aaG:An:=qn<|un<|qn<|.l false 0 ⟨Y65,[(10,.lf I)],[.arr 6 B,.dead,.arr 6 B]⟩ ⟨Y71,[],[.arr 6 B,.dead,.arr 6 B]⟩ .n
def aaH:=cn 140 [.arr 6 B,oP] [.arr 6 B] fun x=>Ov x.1 x.2
theorem aaI:OK aaH:=aD aaG (fun x=>by kernel_rfl) aX aY
def aaJ:An:=qn<|un<|qn<|.l true 0 ⟨[I],NO,[]⟩ Wx .n
def aaK:=cn 213 [.list B,B] [I] fun x=>S5 x.1 x.2
theorem aaL:OK aaK:=aD aaJ (fun x=>by kernel_rfl) aX aY
def aaM:An:= .n
def aaN:=cn 141 [.list B,B] [B] fun x=>Ow x.1 x.2
theorem aaO:OK aaN:=aD aaM (fun x=>by kernel_rfl) (az aaL aX) aY
def a81:An:=qn<|.s [un<|.j false ⟨[B],[(10,.lf B)],nh⟩ .n,qn<|un<|qn<|.l true 1 ⟨Y65,[(32,.lf I)],[.dead,.arr 6 B,.arr 6 B]⟩ ⟨Y71,[],[.dead,.arr 6 B,.arr 6 B]⟩ <|qn<|qn<|un<|qn<|qn<|qn<|qn<|.l false 3 ⟨Y65,[(49,.lf I)],[.dead,.arr 6 B,.arr 6 B,.dead]⟩ ⟨Y71,[],[.dead,.arr 6 B,.arr 6 B,.dead]⟩ .n]
def c81:=cn 81 [sn] [I] fun x=>WB x
theorem k81:OK c81:=aD a81 (fun x=>by kernel_rfl) (az aaF (az aaI (az aaO aX))) aY
def aaP:An:=qn<|qn<|un<|qn<|.l false 0 ⟨[(.int .u64),I],[(3,.lf (.int .u64)),(9,.lf I)],nh⟩ ⟨[(.int .u64)],[(3,.lf (.int .u64))],nh⟩ .n
def aaQ:=cn 253 [oP] [.int .u64] fun x=>Oa x
theorem aaR:OK aaQ:=aD aaP (fun x=>by kernel_rfl) aX aY
def aaS:An:=qn<|qn<|un<|qn<|.l true 0 ⟨[(.int .u64),I],[(8,.lf (.int .u64)),(12,.lf I)],nh⟩ ⟨[(.int .u64)],[(8,.lf (.int .u64))],nh⟩ .n
def aaT:=cn 224 [sn,I,I] [.int .u64,B] fun x=>Ob x.1 x.2.1 x.2.2
theorem aaU:OK aaT:=aD aaS (fun x=>by kernel_rfl) (az aaR aX) aY
def aaV:An:=qn<|qn<|un<|qn<|.l false 0 ⟨[I,I,(.list I)],[(5,.own 1),(6,.lf I),(7,.lf I)],Su⟩ ⟨Sv,[(5,.own 1)],Su⟩ <|qn<|un<|un<|qn<|qn<|.j false ⟨VX,[(5,.own 1),(6,.lf I)],Su⟩ .n
def aaW:=cn 164 [sn,I] [.list I] fun x=>Ol x.1 x.2
theorem aaX:OK aaW:=aD aaV (fun x=>by kernel_rfl) (az aaU aX) aY
def aaY:An:= .n
def aaZ:=cn 101 [sn] [.list I,I] fun x=>JG x
theorem aa0:OK aaZ:=aD aaY (fun x=>by kernel_rfl) (az k81 (az aaX aX)) aY
def aa1:An:= .n
def aa2:=cn 171 [I] [dw] fun x=>m0 x
theorem aa3:OK aa2:=aD aa1 (fun x=>by kernel_rfl) aX aY
def aa4:An:= .n
def aa5:=cn 268 [I] [S] fun x=>Xo x
theorem aa6:OK aa5:=aD aa4 (fun x=>by kernel_rfl) aX aY
def aa7:An:=qn<|un<|qn<|un<|.s [un<|.j false ⟨[B],[(17,.lf B)],[]⟩ .n,qn<|qn<|un<|qn<|.j false ⟨[(.int .u64),(.arr 24 (.int .u8))],[(6,.lf (.int .u64))],[.arr 24 (.int .u8)]⟩ .n]
def aa8:=cn 254 [I,I] [S] fun x=>Xp x.1 x.2
theorem aa9:OK aa8:=aD aa7 (fun x=>by kernel_rfl) (az aa6 aX) aY
def aba:An:= .n
def abb:=cn 225 [I] [S] fun x=>Xq x
theorem abc:OK abb:=aD aba (fun x=>by kernel_rfl) (az aa9 aX) aY
def abd:An:= .n
def abe:=cn 172 [I] [S] fun x=>EK x
theorem abf:OK abe:=aD abd (fun x=>by kernel_rfl) (az abc aX) aY
def abg:An:=qn<|un<|qn<|.l true 0 ⟨[I],NO,nh⟩ AB .n
def abh:=cn 226 [.list WE,WE] [I] fun x=>S6 x.1 x.2
theorem abi:OK abh:=aD abg (fun x=>by kernel_rfl) aX aY
def abj:An:= .n
def abk:=cn 176 [.list WE,WE] [B] fun x=>Ox x.1 x.2
theorem abl:OK abk:=aD abj (fun x=>by kernel_rfl) (az abi aX) aY
def a60:An:=qn<|qn<|qn<|qn<|qn<|.s [.o [(1,qn<|.s [qn<|.l false 0 ⟨Y5,[(19,.lf I)],Wy⟩ Z4 .n,.s [qn<|.j false Z4 <|un<|.o [(4,qn<|.l false 0 ⟨Y28,[(2,.lf I),(3,.lf I)],Wy⟩ Z4 .n)],qn<|qn<|.l false 2 ⟨Y28,[(4,.lf I),(59,.lf I)],Wy⟩ Z4 <|qn<|qn<|un<|.j false ⟨Y5,[(4,.lf I)],Wy⟩ .n]])],un<|qn<|.u [qn<|qn<|un<|qn<|.o [(1,.j true ⟨Y6,[(48,.bl [])],H2⟩ <|qn<|.s [qn<|un<|un<|.o [(3,.j true ⟨Y5,[(16,.lf I)],H2⟩ .n),(4,.j true ⟨Z5,[(17,.lf (.list dw))],H4⟩ <|qn<|qn<|un<|.o [(2,qn<|qn<|un<|qn<|.l false 0 M47 Z6 <|qn<|qn<|un<|qn<|qn<|un<|qn<|.j false ⟨Y7,NO,Z7⟩ .n)]),(5,.j true ⟨Y26,[(18,.lf dw)],H9⟩ .n),(8,.j true ⟨[I,(.list S),I,(.list oP),(.list I),I,(.list I),(.list I),(.list I),(.list dS),(.list I),(.list I),I,I,(.list dw)],[(21,.lf I)],H9⟩ .n),(9,.j true ⟨[(.list dw),(.list S),I,(.list oP),(.list I),I,(.list I),(.list I),(.list I),(.list dS),(.list I),(.list I),I,I,(.list dw)],[(22,.lf (.list dw))],[.dead,.aL .norm S,O0,.aL .nil I,.aL .nil I,.aL .nil I,.aL .nil dS,.aL .nil I,.aL .nil I,.rws .norm 1 [[.b8 103 [.aA 2 1 0 0]],[.b8 104 [.aA 2 1 0 0]],[.b8 105 [.aA 2 1 0 0]],[.b8 106 [.aA 2 1 0 0]]],.dead,NP,.dead]⟩ <|qn<|qn<|un<|.o [(2,qn<|qn<|un<|qn<|.l false 0 ⟨Y37,[(5,.own 12),(19,.lf I)],H23⟩ ⟨[(.list S),I,(.list oP),(.list I),I,(.list I),(.list I),(.list I),(.list dS),(.list I),(.list I),I,I,(.list dw),(.list dw)],[(5,.own 12)],H23⟩ <|qn<|qn<|un<|qn<|qn<|un<|qn<|.j false ⟨Y37,NO,[.dead,.aL .norm S,O0,.aL .nil I,.aL .nil I,.aL .nil I,.aL .nil dS,.aL .nil I,.aL .nil I,.rws .norm 1 [[.b8 103 [.aA 2 1 0 0]],[.b8 104 [.aA 2 1 0 0]],[.b8 105 [.aA 2 1 0 0]],[.b8 106 [.aA 2 1 0 0]]],.dead,NP,.aL .nil dw,.dead]⟩ .n)]),(10,.j true ⟨Y20,[(23,.lf dw)],H24⟩ .n)],qn<|.l false 0 ⟨Y5,[(33,.lf I)],H2⟩ VY <|qn<|qn<|un<|qn<|qn<|un<|.o [(14,.j true ⟨Y28,[(51,.pe 3 0),(56,.lf I)],H2⟩ .n),(15,.j true ⟨[I,(.list dw),(.list S),I,(.list oP),(.list I),I,(.list I),(.list I),(.list I),(.list dS),(.list I),(.list I)],[(51,.pe 3 0),(57,.lf (.list dw))],H4⟩ <|qn<|qn<|un<|.o [(2,qn<|qn<|un<|qn<|.l false 0 M47 Z6 <|qn<|qn<|un<|qn<|qn<|un<|qn<|.j false ⟨Y7,NO,Z7⟩ .n)]),(16,qn<|un<|qn<|.o [(0,.j true ⟨Y20,[(10,.lf dw)],H24⟩ .n)])]])],qn<|qn<|un<|qn<|.o [(1,qn<|.l false 0 ⟨Y5,[(10,.lf I)],H2⟩ VY <|qn<|qn<|un<|qn<|qn<|.j false ⟨Y6,[],H4⟩ <|un<|un<|.o [(10,qn<|qn<|un<|.l false 0 ⟨Y5,NN,H4⟩ ⟨Y5,NN,H4⟩ .n),(15,qn<|qn<|un<|qn<|.l false 0 ⟨Y7,[(5,.own 11),(19,.lf I)],H25⟩ ⟨Y12,[(5,.own 11)],H25⟩ <|qn<|qn<|un<|qn<|qn<|un<|qn<|.j false ⟨Y7,NO,[.dead,.aL .norm S,O0,.aL .nil I,.aL .nil I,.aL .nil I,.aL .nil dS,.aL .nil I,.aL .nil I,.rws .norm 1 [[.b8 103 [.aA 2 1 0 0]],[.b8 104 [.aA 2 1 0 0]],[.b8 105 [.aA 2 1 0 0]],[.b8 106 [.aA 2 1 0 0]]],.dead,.aL .nil dw,.dead]⟩ .n),(16,qn<|un<|qn<|.o [(0,.j true ⟨[dw,(.list S),I,(.list oP),(.list I),I,(.list I),(.list I),(.list I),(.list dS),(.list I),(.list I),(.list dw),I,I,(.list dw),I,I,(.list dw)],[(10,.lf dw)],[.dead,.aL .norm S,O0,.aL .nil I,.aL .nil I,.aL .nil I,.aL .nil dS,.aL .nil I,.aL .nil I,.rws .norm 1 [[.b8 103 [.aA 2 1 0 0]],[.b8 104 [.aA 2 1 0 0]],[.b8 105 [.aA 2 1 0 0]],[.b8 106 [.aA 2 1 0 0]]],.dead,.aL .nil dw,NP,.dead,NP]⟩ .n)])])],qn<|qn<|un<|qn<|.o [(1,qn<|.l false 0 ⟨Y5,[(11,.lf I)],H2⟩ VY <|qn<|qn<|un<|qn<|.s [.o [(2,qn<|qn<|un<|.l false 0 ⟨Y5,NN,H2⟩ ⟨Y5,NN,H2⟩ .n)],qn<|.s [qn<|.j false ⟨Z5,[(4,.lf (.list dw))],H2⟩ <|qn<|qn<|.j false ⟨Z5,[(4,.lf (.list dw))],H2⟩ <|un<|.o [(3,.j true ⟨Z5,[(41,.lf (.list dw))],H4⟩ <|qn<|qn<|un<|.o [(2,qn<|qn<|un<|qn<|.l false 0 M47 Z6 <|qn<|qn<|un<|qn<|qn<|un<|qn<|.j false ⟨Y7,NO,Z7⟩ .n)])],.o [(17,qn<|un<|qn<|.o [(0,.j true ⟨Y20,[(10,.lf dw)],[.dead,.aL .norm S,O0,.aL .nil I,.aL .nil I,.aL .nil I,.aL .nil dS,.aL .nil I,.aL .nil I,.rws .norm 1 [[.b8 103 [.aA 2 1 0 0]],[.b8 104 [.aA 2 1 0 0]],[.b8 105 [.aA 2 1 0 0]],[.b8 106 [.aA 2 1 0 0]]],NP,.dead,NP]⟩ .n)])]]])],qn<|qn<|un<|qn<|.o [(1,qn<|.l false 0 ⟨Y5,[(14,.lf I)],H2⟩ VY <|qn<|qn<|un<|qn<|qn<|.l false 2 ⟨Y5,[(19,.lf I)],H2⟩ VY <|qn<|qn<|un<|qn<|qn<|.s [qn<|.l false 4 ⟨Y7,[(5,.own 10),(29,.lf I)],H3⟩ Z6 <|qn<|qn<|un<|qn<|qn<|.j false ⟨Y12,[(5,.own 10)],Z7⟩ .n,qn<|qn<|.j false VY <|.s [.o [(10,.j true ⟨Y26,[(67,.lf dw)],H9⟩ .n)],.o [(10,.j true ⟨Y26,[(84,.lf dw)],H9⟩ .n)]]])],.n]]
def c60:=cn 60 [sn] [.eg abm,I] fun x=>Sw x
theorem k60:OK c60:=aD a60 (fun x=>by kernel_rfl) (az k81 (az aa0 (az aa3 (az abf (az abl aX))))) aY
def abn:An:= .n
def abo:=cn 138 [yI] [I] fun x=>vK x
theorem S7:OK abo:=aD abn (fun x=>by kernel_rfl) aX aY
def abp:An:= .n
def abq:=cn 182 [yI,I] [S] fun x=>Oi x.1 x.2
theorem abr:OK abq:=aD abp (fun x=>by kernel_rfl) (az S7 aX) aY
def abt:An:=qn<|un<|.j false Wv .n
def abu:=cn 232 [.int .u8] [B] fun x=>Oy x
theorem abv:OK abu:=aD abt (fun x=>by kernel_rfl) aX aY
def abw:An:=qn<|un<|.j false Wv .n
def abx:=cn 231 [.int .i32] [B] fun x=>Oz x
theorem aby:OK abx:=aD abw (fun x=>by kernel_rfl) (az abv aX) aY
def Ma:An:=qn<|un<|qn<|.l true 0 ⟨[S,I],[],[.yE]⟩ Wx .n
def Mb:j3 GT:=⟨272,[.lf S,.fn 231 [],.lf B],[S,B],[I],fun x=>wZ x.1 x.2⟩
theorem Mc:OK Mb:=aD Ma (fun x=>by kernel_rfl) (az aby aX) aY
def Md:An:= .n
def Me:j3 GT:=⟨256,[.lf S,.fn 231 []],[S],[I],fun x=>xb x⟩
theorem Mf:OK Me:=aD Md (fun x=>by kernel_rfl) (az Mc aX) aY
def Mg:An:= .n
def Mh:j3 GT:=⟨230,[.lf S,.fn 231 []],[S],[B],fun x=>nS x⟩
theorem Mi:OK Mh:=aD Mg (fun x=>by kernel_rfl) (az Mf aX) aY
def Yn:An:=qn<|.s [un<|.j false ⟨Wz,[(22,.lf B)],Ji⟩ .n,qn<|un<|un<|.o [(5,.j true ⟨[I,B,(.list S),(.list I),I,(.list S),(.list dS),(.list I),(.list I)],[(32,.bl [.lf I,.lf B])],Ji⟩ .n)]]
noncomputable def Yo:Az:=⟨[.po 3 0,.lf S],[.dead,.dead,.mT,.box [.lf I,.lf (.list S),.lf (.list dS),.lf (.list I),.lf (.list I),.c (.mp 2),.c (.b8 179 [.aA 3 1 0 0]),.c (.b8 180 [.aA 3 1 0 0]),.c (.b8 181 [.aA 3 1 0 0])]],[]⟩
def Yp:dJ:=⟨[.lf I],Ji,Rj⟩
def Yq:dJ:=⟨[],VZ,[]⟩
noncomputable def Yr:eZ GT:=⟨183,Yo,[S,(.list S),(.list I),I,(.list S),(.list dS),(.list I),(.list I)],Yp,Yq,fun x=>zj x.1 x.2.1 x.2.2.1 x.2.2.2.1 x.2.2.2.2.1 x.2.2.2.2.2.1 x.2.2.2.2.2.2.1 x.2.2.2.2.2.2.2⟩
theorem RB:Yr.Ok E0 hp sp.ge:=iO Yn (fun x=>by kernel_rfl) (az Mi aX) aY jc sA
def abz:An:= .n
def abA:=cn 131 [yI] [I] fun x=>AI x
theorem OA:OK abA:=aD abz (fun x=>by kernel_rfl) (az S7 aX) aY
def Ys:An:=qn<|.s [un<|.o [(3,qn<|qn<|qn<|un<|.j false ⟨[B,I,I,B,I,I],[(22,.lf B)],[.dead,Ew,Ew,.box [.lf B],Ew,Ew,.dead,.lp .busy 0,.box [.c (.fI 7)],O54]⟩ .n)],un<|qn<|.l true 0 ⟨[I,I,I,B,I,I],[(17,.lf I)],H18⟩ ⟨[I,I,B,I,I],[],H18⟩ .n]
noncomputable def RD:Az:=⟨[.lf dw,.lf I,.po 8 0,.po 9 0],[.dead,.box [.lf I],.box [.lf I],.box [.lf B],.box [.lf I],.box [.lf I],.dead,.lp .ready 0,.box [.c (.fI 7)],.box [.fn 265 [.po 8 0,.po 9 0]]],[(25,[(2,.po 1 0),(3,.po 2 0),(4,.po 3 0),(5,.po 4 0),(6,.po 5 0),(9,.fn 264 [.bZ [.lf I,.lf I,.lf (.list dw)]])],c3 245 0)]⟩
def RE:dJ:=⟨[.cb false],[.dead,Ew,Ew,.box [.lf B],Ew,Ew,.dead,.lp (.done .ret) 0,.box [.c (.fI 7)],O54],[I,I,B,I,I]⟩
def RG:dJ:=⟨[.cb true],H18,[I,I,B,I,I]⟩
noncomputable def Yt (n:Nat):eZ GT:=⟨265,RD,[dw,I,I,I,B,I,I,I,I,(.list dw)],RE,RG,fun x=>zk n x.1 x.2.1 x.2.2.1 x.2.2.2.1 x.2.2.2.2.1 x.2.2.2.2.2.1 x.2.2.2.2.2.2.1 x.2.2.2.2.2.2.2.1 x.2.2.2.2.2.2.2.2.1 x.2.2.2.2.2.2.2.2.2⟩
theorem RH:∀ n,(Yt n).Ok E0 hp sp.ge
 | 0=>fun x r h=>nomatch h
 | n+1=>iO Ys (fun x=>by kernel_rfl) aX aY (mP (RH n) jc) sA
noncomputable def Yu:eZ GT:=⟨265,RD,[dw,I,I,I,B,I,I,I,I,(.list dw)],RE,RG,fun x=>Ke x.1 x.2.1 x.2.2.1 x.2.2.2.1 x.2.2.2.2.1 x.2.2.2.2.2.1 x.2.2.2.2.2.2.1 x.2.2.2.2.2.2.2.1 x.2.2.2.2.2.2.2.2.1 x.2.2.2.2.2.2.2.2.2⟩
theorem Yv:Yu.Ok E0 hp sp.ge:=RH fuel
def abB:An:= .n
def abC:=cn 245 [dw] [I,I,B] fun x=>OB x
theorem abD:OK abC:=qW abB (fun x=>by kernel_rfl) aX aY (mP Yv jc) sA
theorem abE:Pt E0 hp 248 [] (.agg [.int .i64 0,.int .i64 0,.kL,.int .i64 0,.int .i64 0,.kL,.int .i64 1,.int .i64 1,.fn 287 [.bZ [.bool false]],.int .i64 2,.int .i64 256,.fn 287 [.bZ [.bool true]],.int .i64 2,.int .i64 256,.fn 267 []]):=S8 (by kernel_rfl) (by kernel_rfl)
def abF:An:=qn<|.s [un<|.j false M59 .n,qn<|.s [un<|.j false ⟨[B],[(32,.lf B)],qt⟩ .n,qn<|.s [qn<|qn<|.j false M64 <|qn<|qn<|.j false M64 .n,un<|un<|.j false M60 .n]]]
def abG:=cn 247 [dw,I] [I] fun x=>JH x.1 x.2
theorem abH:OK abG:=qW abF (fun x=>by kernel_rfl) aX aY jc (Kf (p:=(248,[],.agg [.int .i64 0,.int .i64 0,.kL,.int .i64 0,.int .i64 0,.kL,.int .i64 1,.int .i64 1,.fn 287 [.bZ [.bool false]],.int .i64 2,.int .i64 256,.fn 287 [.bZ [.bool true]],.int .i64 2,.int .i64 256,.fn 267 []])) abE sA)
def Uk:An:=qn<|qn<|un<|qn<|.l true 0 ⟨[I,I],[(17,.lf I)],H31⟩ ⟨[I],[],H31⟩ .n
noncomputable def K4:Az:=⟨[.lf dw,.lf I,.po 5 0,.po 6 0],[.dead,.dead,.box [.lf I],.dead,.lp .ready 0,.box [.c (.fI 4)],.box [.fn 265 [.po 5 0,.po 6 0]]],[(35,[(3,.bZ [.lf I]),(4,.po 2 0),(26,.fn 264 [.bZ [.lf I,.lf I,.lf (.list dw)]])],c3 210 0)]⟩
def K5:dJ:=⟨[.cb false],[.dead,.dead,Ew,.dead,.lp (.done .ret) 0,.box [.c (.fI 4)],.box [.fn 265 [.po 5 0,.po 6 0]]],[I]⟩
def K6:dJ:=⟨[.cb true],H31,[I]⟩
noncomputable def Ul (n:Nat):eZ GT:=⟨265,K4,[dw,I,I,I,I,I,(.list dw)],K5,K6,fun x=>pP n x.1 x.2.1 x.2.2.1 x.2.2.2.1 x.2.2.2.2.1 x.2.2.2.2.2.1 x.2.2.2.2.2.2⟩
theorem K7:∀ n,(Ul n).Ok E0 hp sp.ge
 | 0=>fun x r h=>nomatch h
 | n+1=>iO Uk (fun x=>by kernel_rfl) (az abH aX) aY (mP (K7 n) jc) sA
noncomputable def Um:eZ GT:=⟨265,K4,[dw,I,I,I,I,I,(.list dw)],K5,K6,fun x=>E5 x.1 x.2.1 x.2.2.1 x.2.2.2.1 x.2.2.2.2.1 x.2.2.2.2.2.1 x.2.2.2.2.2.2⟩
theorem Un:Um.Ok E0 hp sp.ge:=K7 fuel
def abI:An:=qn<|un<|un<|.j false ⟨[B,I],[(16,.lf B)],[.dead,.dead,Ew]⟩ .n
def abJ:=cn 210 [dw,I] [I] fun x=>JI x.1 x.2
theorem Xr:OK abJ:=qW abI (fun x=>by kernel_rfl) (az abD aX) aY (mP Un jc) sA
def abK:An:=qn<|un<|.j false Ww .n
def abL:=cn 229 [dw] [B] fun x=>JJ x
theorem Xs:OK abL:=aD abK (fun x=>by kernel_rfl) aX aY
def Yw:An:=qn<|un<|qn<|.s [.j false ⟨Wz,[(14,.lf B)],H58⟩ .n,qn<|un<|.j false ⟨Wz,[(23,.lf B)],H58⟩ .n]
noncomputable def Yx:Az:=⟨[.po 3 0,.lf I],[.dead,.dead,.mT,.box [.lf I,.lf (.list S),.lf (.list dS),.lf (.list I),.lf (.list I),.c (.mp 2),.c (.b8 179 [.aA 3 1 0 0]),.c (.b8 180 [.aA 3 1 0 0]),.c (.b8 181 [.aA 3 1 0 0])]],[]⟩
def Yy:dJ:=⟨[.lf I],H58,Rj⟩
def Yz:dJ:=⟨[],VZ,[]⟩
noncomputable def YA:eZ GT:=⟨181,Yx,[I,(.list S),(.list I),I,(.list S),(.list dS),(.list I),(.list I)],Yy,Yz,fun x=>Gn x.1 x.2.1 x.2.2.1 x.2.2.2.1 x.2.2.2.2.1 x.2.2.2.2.2.1 x.2.2.2.2.2.2.1 x.2.2.2.2.2.2.2⟩
theorem YB:YA.Ok E0 hp sp.ge:=iO Yw (fun x=>by kernel_rfl) (az Xs aX) aY jc sA
def YC:An:= .n
noncomputable def YD:Az:=⟨[.po 3 0,.lf I],[.dead,.dead,.mT,.box [.lf I,.lf (.list S),.lf (.list dS),.lf (.list I),.lf (.list I),.c (.mp 2),.c (.b8 179 [.aA 3 1 0 0]),.c (.b8 180 [.aA 3 1 0 0]),.c (.b8 181 [.aA 3 1 0 0])]],[]⟩
def YE:dJ:=⟨[.lf I],Ji,Rj⟩
def YF:dJ:=⟨[],VZ,[]⟩
noncomputable def YG:eZ GT:=⟨180,YD,[I,(.list S),(.list I),I,(.list S),(.list dS),(.list I),(.list I)],YE,YF,fun x=>Gp x.1 x.2.1 x.2.2.1 x.2.2.2.1 x.2.2.2.2.1 x.2.2.2.2.2.1 x.2.2.2.2.2.2.1 x.2.2.2.2.2.2.2⟩
theorem YH:YG.Ok E0 hp sp.ge:=iO YC (fun x=>by kernel_rfl) (az OA (az Xr aX)) aY jc sA
def YI:An:=qn<|.s [qn<|.j false ⟨Z8,[],H8⟩ <|un<|.o [(3,qn<|.j false ⟨Z8,[],H8⟩ .n)],qn<|.l false 0 ⟨Y49,[(16,.lf I)],H8⟩ ⟨Z8,[],H8⟩ .n]
noncomputable def RI:Az:=⟨[.lf dw,.po 9 0,.po 10 0],[.dead,.dead,.mT,.box [.lf I,.lf (.list S),.lf (.list dS),.lf (.list I),.lf (.list I),.c (.mp 2),.c (.b8 179 [.aA 3 1 0 0]),.c (.b8 180 [.aA 3 1 0 0]),.c (.b8 181 [.aA 3 1 0 0])],.box [.po 3 0],.dead,.dead,.box [.lf B],.dead,.box [.fn 228 [.po 4 0,.po 7 0,.bZ [.lf I]]],.box [.fn 255 [.po 9 0,.po 10 0]]],[]⟩
def RJ:dJ:=⟨[],H8,Z8⟩
def RK:dJ:=⟨[],VZ,[]⟩
noncomputable def YJ (n:Nat):eZ GT:=⟨255,RI,[dw,(.list S),(.list I),I,(.list S),(.list dS),(.list I),(.list I),B,I],RJ,RK,fun x=>Ch n x.1 x.2.1 x.2.2.1 x.2.2.2.1 x.2.2.2.2.1 x.2.2.2.2.2.1 x.2.2.2.2.2.2.1 x.2.2.2.2.2.2.2.1 x.2.2.2.2.2.2.2.2.1 x.2.2.2.2.2.2.2.2.2⟩
theorem RL:∀ n,(YJ n).Ok E0 hp sp.ge
 | 0=>fun x r h=>nomatch h
 | n+1=>iO YI (fun x=>by kernel_rfl) (az S7 aX) aY (mP (RL n) jc) sA
noncomputable def YK:eZ GT:=⟨255,RI,[dw,(.list S),(.list I),I,(.list S),(.list dS),(.list I),(.list I),B,I],RJ,RK,fun x=>Kg x.1 x.2.1 x.2.2.1 x.2.2.2.1 x.2.2.2.2.1 x.2.2.2.2.2.1 x.2.2.2.2.2.2.1 x.2.2.2.2.2.2.2.1 x.2.2.2.2.2.2.2.2.1 x.2.2.2.2.2.2.2.2.2⟩
theorem YL:YK.Ok E0 hp sp.ge:=RL fuel
def YM:An:=qn<|qn<|qn<|un<|qn<|qn<|un<|.j false ⟨[B,(.list S),(.list I),I,(.list S),(.list dS),(.list I),(.list I),B,I],[(21,.lf B)],H8⟩ .n
noncomputable def YN:Az:=⟨[.po 3 0,.lf I],[.dead,.dead,.mT,.box [.lf I,.lf (.list S),.lf (.list dS),.lf (.list I),.lf (.list I),.c (.mp 2),.c (.b8 179 [.aA 3 1 0 0]),.c (.b8 180 [.aA 3 1 0 0]),.c (.b8 181 [.aA 3 1 0 0])]],[]⟩
def YO:dJ:=⟨[.lf I],H8,Y49⟩
def YP:dJ:=⟨[],VZ,[]⟩
noncomputable def YQ:eZ GT:=⟨179,YN,[I,(.list S),(.list I),I,(.list S),(.list dS),(.list I),(.list I)],YO,YP,fun x=>Gq x.1 x.2.1 x.2.2.1 x.2.2.2.1 x.2.2.2.2.1 x.2.2.2.2.2.1 x.2.2.2.2.2.2.1 x.2.2.2.2.2.2.2⟩
theorem YR:YQ.Ok E0 hp sp.ge:=iO YM (fun x=>by kernel_rfl) (az Xs aX) aY (mP YL jc) sA
def YS:An:=qn<|qn<|qn<|.s [un<|.j false ⟨Wz,[(30,.lf B)],Ji⟩ .n,qn<|un<|.j false ⟨Rj,[(4,.lf I)],Ji⟩ .n]
noncomputable def YT:Az:=⟨[.po 3 0,.lf I],[.dead,.dead,.mT,.box [.lf I,.lf (.list S),.lf (.list dS),.lf (.list I),.lf (.list I),.c (.mp 2),.c (.b8 179 [.aA 3 1 0 0]),.c (.b8 180 [.aA 3 1 0 0]),.c (.b8 181 [.aA 3 1 0 0])]],[]⟩
def YU:dJ:=⟨[.lf I],Ji,Rj⟩
def YV:dJ:=⟨[],VZ,[]⟩
noncomputable def YW:eZ GT:=⟨184,YT,[I,(.list S),(.list I),I,(.list S),(.list dS),(.list I),(.list I)],YU,YV,fun x=>Gr x.1 x.2.1 x.2.2.1 x.2.2.2.1 x.2.2.2.2.1 x.2.2.2.2.2.1 x.2.2.2.2.2.2.1 x.2.2.2.2.2.2.2⟩
theorem YX:YW.Ok E0 hp sp.ge:=iO YS (fun x=>by kernel_rfl) (az OA (az Xr aX)) aY (mP RB (mP YB (mP YH (mP YR jc)))) sA
def abM:An:=qn<|un<|.j false ⟨[B],[(3,.lf B)],[]⟩ .n
def abN:j3 GT:=⟨185,[.lf I,.bZ [.lf I,.lf (.list S),.lf (.list dS),.lf (.list I),.lf (.list I)]],[I,I,(.list S),(.list dS),(.list I),(.list I)],[B],fun x=>S9 x.1 x.2.1 x.2.2.1 x.2.2.2.1 x.2.2.2.2.1 x.2.2.2.2.2⟩
theorem abO:OK abN:=aD abM (fun x=>by kernel_rfl) (az OA aX) aY
def Mj:An:=qn<|un<|qn<|.l true 0 ⟨[I],NO,[]⟩ Wx .n
def Mk:j3 GT:=⟨223,[.lf (.list I),.fn 185 [.bZ [.lf I,.lf (.list S),.lf (.list dS),.lf (.list I),.lf (.list I)]]],[(.list I),I,(.list S),(.list dS),(.list I),(.list I)],[I],fun x=>xd x.1 x.2.1 x.2.2.1 x.2.2.2.1 x.2.2.2.2.1 x.2.2.2.2.2⟩
theorem Ml:OK Mk:=aD Mj (fun x=>by kernel_rfl) (az abO aX) aY
def Mm:An:= .n
def Mn:j3 GT:=⟨160,[.lf (.list I),.fn 185 [.bZ [.lf I,.lf (.list S),.lf (.list dS),.lf (.list I),.lf (.list I)]]],[(.list I),I,(.list S),(.list dS),(.list I),(.list I)],[B],fun x=>rG x.1 x.2.1 x.2.2.1 x.2.2.2.1 x.2.2.2.2.1 x.2.2.2.2.2⟩
theorem Mo:OK Mn:=aD Mm (fun x=>by kernel_rfl) (az Ml aX) aY
def a64:An:=qn<|un<|.o [(1,qn<|.s [un<|.j false ⟨[B],[(18,.lf B)],qt⟩ .n,.s [un<|.j false ⟨[B],[(28,.lf B)],qt⟩ .n,qn<|qn<|.s [qn<|.l false 0 ⟨Rj,[(46,.lf I)],Ji⟩ M34 .n,.s [qn<|.l true 2 ⟨Rj,[(61,.lf I)],Ji⟩ M34 .n,.s [qn<|.l true 4 ⟨Rj,[(75,.lf I)],Ji⟩ M34 .n,.s [un<|.j false ⟨Wz,[(98,.lf B)],Ji⟩ .n,un<|un<|un<|.o [(5,qn<|qn<|.s [qn<|.l false 0 ⟨[I,I,(.list S),(.list I),I,(.list S),(.list dS),(.list I),(.list I),(.list (.list I))],[(3,.lf I),(11,.lf I)],H69⟩ ⟨[I,(.list S),(.list I),I,(.list S),(.list dS),(.list I),(.list I),(.list (.list I))],[(3,.lf I)],H69⟩ .n,.s [.o [(1,qn<|qn<|un<|qn<|qn<|qn<|.z)],un<|qn<|.l false 2 ⟨[I,(.list S),(.list I),I,(.list S),(.list dS),(.list I),(.list I),(.list (.list I)),(.list I)],[(6,.own 5),(27,.lf I)],H57⟩ ⟨[(.list S),(.list I),I,(.list S),(.list dS),(.list I),(.list I),(.list (.list I)),(.list I)],[(6,.own 5)],H57⟩ .n]])]]]]]]])]
def c64:=cn 64 [yI] [I] fun x=>m64 x
theorem k64:OK c64:=qW a64 (fun x=>by kernel_rfl) (az abr (az Mo aX)) aY (mP RB (mP YX jc)) sA
def abP:An:=qn<|un<|.j false ⟨[B],[(3,.lf B)],[]⟩ .n
def abQ:j3 GT:=⟨159,[.lf I,.bZ [.lf I]],[I,I],[B],fun x=>S1 x.1 x.2⟩
theorem abR:OK abQ:=aD abP (fun x=>by kernel_rfl) aX aY
def Mp:An:=qn<|un<|qn<|.l true 0 ⟨[I],NO,[]⟩ Wx .n
def Mq:j3 GT:=⟨223,[.lf (.list I),.fn 159 [.bZ [.lf I]]],[(.list I),I],[I],fun x=>wV x.1 x.2⟩
theorem Mr:OK Mq:=aD Mp (fun x=>by kernel_rfl) (az abR aX) aY
def Ms:An:= .n
def Mt:j3 GT:=⟨160,[.lf (.list I),.fn 159 [.bZ [.lf I]]],[(.list I),I],[B],fun x=>nO x.1 x.2⟩
theorem Mu:OK Mt:=aD Ms (fun x=>by kernel_rfl) (az Mr aX) aY
theorem Uo:Pt E0 hp 158 [.int .i64 3] (.fn 159 [.bZ [.int .i64 3]]):=S8 (by kernel_rfl) (by kernel_rfl)
theorem Up:Pt E0 hp 158 [.int .i64 4] (.fn 159 [.bZ [.int .i64 4]]):=S8 (by kernel_rfl) (by kernel_rfl)
def a94:An:=qn<|qn<|.s [un<|.j false M60 .n,qn<|.s [un<|.j false ⟨[B],[(61,.lf B)],qt⟩ .n,un<|qn<|.l true 0 ⟨[I],[(65,.lf I)],qt⟩ VW <|qn<|qn<|un<|qn<|qn<|un<|.j false ⟨[B],[(95,.lf B)],qt⟩ .n]]
def c94:=cn 94 [yI,Jv] [I] fun x=>Z0 x.1 x.2
theorem k94:OK c94:=qW a94 (fun x=>by kernel_rfl) (az Mu aX) aY jc (Kf (p:=(158,[.int .i64 4],.fn 159 [.bZ [.int .i64 4]])) Up (Kf (p:=(158,[.int .i64 3],.fn 159 [.bZ [.int .i64 3]])) Uo sA))
def a52:An:= .n
def c52:=cn 52 [yI,Jv] [I] fun x=>VU x.1 x.2
theorem k52:OK c52:=aD a52 (fun x=>by kernel_rfl) (az k64 (az k94 aX)) aY
def a76:An:=qn<|qn<|.s [un<|.j false ⟨[B],[(22,.lf B)],qt⟩ .n,un<|.o [(1,qn<|qn<|un<|qn<|.l false 0 ⟨[I,(.list B)],[(3,.own 3),(9,.lf I)],[.dead,.dead,.dead,.aL .nil B]⟩ ⟨[(.list B)],[(3,.own 3)],[.dead,.dead,.dead,.aL .nil B]⟩ .n)]]
def c76:=cn 76 [yI,Jv,I] [B,I] fun x=>WG x.1 x.2.1 x.2.2
theorem k76:OK c76:=aD a76 (fun x=>by kernel_rfl) (az k52 (az OA aX)) aY
def a38:An:=qn<|qn<|qn<|qn<|qn<|un<|qn<|.l true 0 ⟨[I,I],[(9,.lf I),(36,.lf I)],qt⟩ ⟨[I],[(9,.lf I)],qt⟩ <|qn<|qn<|un<|qn<|qn<|qn<|qn<|.s [.j false ⟨[B],[(55,.lf B)],qt⟩ .n,qn<|qn<|.j false ⟨[I],[(9,.lf I)],qt⟩ .n]
def c38:=cn 38 [sn,Jv] [I,I] fun x=>WH x.1 x.2
theorem k38:OK c38:=aD a38 (fun x=>by kernel_rfl) (az k60 (az k52 (az k76 aX))) aY
def abS:An:=qn<|un<|qn<|.l true 0 ⟨[I],[(7,.lf I)],nh⟩ AB <|qn<|un<|un<|.j false ⟨[B],[(31,.lf B)],nh⟩ .n
def abT:=cn 129 [sn,I,I] [B] fun x=>JF x.1 x.2.1 x.2.2
theorem abU:OK abT:=aD abS (fun x=>by kernel_rfl) (az Xn aX) aY
def a73:An:=qn<|qn<|un<|qn<|.l false 0 ⟨VX,L72,Su⟩ ⟨Sv,[(3,.own 1)],Su⟩ <|qn<|un<|qn<|.l false 2 ⟨VX,[(3,.own 1),(5,.lf I)],Su⟩ ⟨Sv,[(3,.own 1)],Su⟩ .n
def c73:=cn 73 [sn] [.list I] fun x=>Jj x
theorem Sx:OK c73:=aD a73 (fun x=>by kernel_rfl) (az abU aX) aY
def abV:An:= .n
def abW:=cn 128 [sn] [I] fun x=>B6 x
theorem Ta:OK abW:=aD abV (fun x=>by kernel_rfl) aX aY
def abX:An:=qn<|qn<|un<|qn<|.l false 0 ⟨[I,I,I,(.list oP),(.list I),I,(.list oP),(.list I)],[(1,.lf I),(6,.lf I)],H30⟩ ⟨[I,(.list oP),(.list I),I,(.list oP),(.list I)],[],H30⟩ <|qn<|un<|.j false ⟨[I,I,(.list oP),(.list I),I,(.list oP),(.list I)],[(1,.lf I)],H30⟩ .n
def abY:=cn 130 [sn,I] [N4] fun x=>OC x.1 x.2
theorem abZ:OK abY:=aD abX (fun x=>by kernel_rfl) aX aY
def a74:An:= .n
def c74:=cn 74 [sn] [N4] fun x=>V1 x
theorem k74:OK c74:=aD a74 (fun x=>by kernel_rfl) (az Ta (az Sx (az abZ aX))) aY
def a75:An:=qn<|qn<|un<|qn<|.l false 0 ⟨[I,I],[(3,.lf I),(4,.lf I)],nh⟩ Wu <|qn<|un<|qn<|.j false Wu .n
def c75:=cn 75 [N4] [I] fun x=>V2 x
theorem k75:OK c75:=aD a75 (fun x=>by kernel_rfl) aX aY
def a61:An:= .n
def c61:=cn 61 [sn] [I] fun x=>m61 x
theorem k61:OK c61:=aD a61 (fun x=>by kernel_rfl) (az k49 (az Sx (az k74 (az k75 aX)))) aY
def a71:An:=qn<|qn<|qn<|qn<|un<|qn<|.l false 0 ⟨VX,[(4,.own 1),(5,.lf I)],Z9⟩ ⟨Sv,[(4,.own 1)],Z9⟩ .n
def c71:=cn 71 [sn] [.list I] fun x=>NQ x
theorem k71:OK c71:=aD a71 (fun x=>by kernel_rfl) (az Sx (az Ta aX)) aY
def ab0:An:= .n
def ab1:=cn 177 [sn,.list I,I] [I] fun x=>AJ x.1 x.2.1 x.2.2
theorem ab2:OK ab1:=aD ab0 (fun x=>by kernel_rfl) aX aY
def ab3:An:= .n
def ab4:=cn 147 [I] [dw] fun x=>vL x
theorem Ii:OK ab4:=aD ab3 (fun x=>by kernel_rfl) aX aY
def ab5:An:=qn<|qn<|un<|qn<|.l false 0 ⟨[I,(.list dw)],L72,[.dead,.aL .nil dw]⟩ ⟨[(.list dw)],[(3,.own 1)],[.dead,.aL .nil dw]⟩ <|qn<|un<|qn<|un<|qn<|.j false ⟨[I,(.list dw)],NN,[.dead,.aL .nil dw]⟩ .n
def ab6:=cn 151 [oP] [.list dw] fun x=>JK x
theorem Xt:OK ab6:=aD ab5 (fun x=>by kernel_rfl) (az Ii aX) aY
def ab7:An:= .n
def ab8:=cn 149 [N4,I] [.list dw] fun x=>yO x.1 x.2
theorem Xu:OK ab8:=aD ab7 (fun x=>by kernel_rfl) (az Ii (az Xt aX)) aY
def ab9:An:= .n
def acd:=cn 148 [I,.list dw] [dw] fun x=>uL x.1 x.2
theorem OD:OK acd:=aD ab9 (fun x=>by kernel_rfl) aX aY
def ace:An:=qn<|qn<|un<|qn<|.l false 0 ⟨[S,I],[(5,.lf S),(6,.lf I)],[]⟩ ⟨[S],[(5,.lf S)],[]⟩ <|un<|un<|.j false ⟨[B],[(13,.lf B)],[]⟩ .n
def acf:=cn 109 [S,I] [S] fun x=>B7 x.1 x.2
theorem Tb:OK acf:=aD ace (fun x=>by kernel_rfl) aX aY
def acg:An:=qn<|qn<|qn<|qn<|qn<|un<|qn<|.l false 0 ⟨[I,(.list dS)],[(8,.own 1),(9,.lf I)],WA⟩ ⟨[(.list dS)],[(8,.own 1)],WA⟩ .n
def d107:ey GT:=⟨107,[.lf N4],[N4],dS,fun x=>OF x⟩
theorem ach:d107.Ok E0 hp sp.ge:=Pq acg (fun x=>by kernel_rfl) (az Sx (az k71 (az ab2 (az Xu (az OD (az Ii (az Tb aX))))))) aY
def aci:An:=qn<|qn<|un<|qn<|.l false 0 ⟨[I,I],[(5,.lf I),(6,.lf I)],[]⟩ ⟨[I],NN,[]⟩ <|qn<|un<|qn<|.j false ⟨[I],NN,[]⟩ .n
def acj:=cn 178 [.list I,I] [I] fun x=>Ij x.1 x.2
theorem Xv:OK acj:=aD aci (fun x=>by kernel_rfl) aX aY
def ack:An:=qn<|qn<|un<|qn<|.l false 0 ⟨VX,L72,Z9⟩ ⟨Sv,[(3,.own 1)],Z9⟩ .n
def acm:=cn 108 [sn] [.list I] fun x=>OG x
theorem acn:OK acm:=aD ack (fun x=>by kernel_rfl) (az k71 (az Sx (az Xv aX))) aY
def a86:An:=qn<|qn<|un<|qn<|.l false 0 M63 M35 <|qn<|un<|qn<|.j false M35 .n
def c86:=cn 86 [N4,.list I] [.list dS] fun x=>WI x.1 x.2
theorem k86:OK c86:=aD a86 (fun x=>by kernel_rfl) (az Ii (az Xt (az Tb (az OD aX)))) aY
def aco:An:= .n
def acp:=cn 110 [N4,I] [dw] fun x=>OH x.1 x.2
theorem acq:OK acp:=aD aco (fun x=>by kernel_rfl) (az Sx (az k71 (az Xv (az Ii (az OD (az Xu aX)))))) aY
def a72:An:=qn<|qn<|qn<|un<|qn<|.l false 0 ⟨VX,[(4,.own 2),(5,.lf I)],[.dead,.dead,.aL .nil I]⟩ ⟨Sv,[(4,.own 2)],[.dead,.dead,.aL .nil I]⟩ .n
def c72:=cn 72 [sn] [.list I] fun x=>m72 x
theorem k72:OK c72:=aD a72 (fun x=>by kernel_rfl) (az k74 (az Ta (az Sx (az k75 aX)))) aY
def a88:An:=qn<|qn<|un<|qn<|.l false 0 M63 M35 <|qn<|un<|qn<|.l false 2 ⟨[I,(.list dS)],[(5,.own 1),(22,.lf I)],WA⟩ M35 <|qn<|qn<|un<|qn<|qn<|.s [qn<|.l false 4 ⟨[I,(.list dS),(.list dw)],[(9,.own 2),(10,.lf I)],H33⟩ M40 <|qn<|un<|qn<|.l false 6 ⟨[I,(.list dS),(.list dw)],[(9,.own 2),(11,.lf I)],H33⟩ M40 <|qn<|un<|qn<|.j false M40 .n,qn<|un<|qn<|.j false ⟨[S,(.list dS),(.list dw)],[(12,.lf S)],H33⟩ .n]
def c88:=cn 88 [N4,.list I] [.list dS] fun x=>WJ x.1 x.2
theorem k88:OK c88:=aD a88 (fun x=>by kernel_rfl) (az Ii (az OD aX)) aY
def acr:An:= .n
def acs:=cn 152 [yI] [I] fun x=>me x
theorem Tc:OK acs:=aD acr (fun x=>by kernel_rfl) aX aY
def a62:An:=qn<|qn<|qn<|qn<|.s [qn<|.l false 0 ⟨[I,I,(.list S),(.list dS),(.list I),(.list I),(.list S),(.list dS),I],NN,H43⟩ ⟨[I,(.list S),(.list dS),(.list I),(.list I),(.list S),(.list dS),I],[],H43⟩ .n,qn<|un<|.o [(1,qn<|qn<|un<|qn<|.l false 0 ⟨[I,I,(.list S),(.list dS),(.list I),(.list I),(.list S),(.list dS),I,I,I,(.list S),(.list dS),(.list I),(.list I),(.list I),(.list I)],[(4,.lf I)],H32⟩ ⟨[I,(.list S),(.list dS),(.list I),(.list I),(.list S),(.list dS),I,I,I,(.list S),(.list dS),(.list I),(.list I),(.list I),(.list I)],[],H32⟩ .n)]]
def c62:=cn 62 [sn] [yI] fun x=>V3 x
theorem k62:OK c62:=aD a62 (fun x=>by kernel_rfl) (az k74 (az acn (az k86 (az Tb (az acq (az k72 (az k88 (az Tc aX)))))))) (YY ach aY)
def acu:An:= .n
def acv:=cn 199 [yI] [I] fun x=>sy x
theorem Td:OK acv:=aD acu (fun x=>by kernel_rfl) aX aY
def acw:An:= .n
def acy:=cn 197 [yI,I] [S] fun x=>uK x.1 x.2
theorem acz:OK acy:=aD acw (fun x=>by kernel_rfl) (az Td aX) aY
def acA:An:=qn<|un<|qn<|.l true 0 ⟨[I],[(3,.lf I)],[]⟩ Wx <|qn<|un<|.s [.j false ⟨[B,B],[(4,.lf B),(5,.lf B)],[]⟩ .n,un<|.j false ⟨[B],[(63,.lf B)],[]⟩ .n]
def acB:=cn 198 [S] [B] fun x=>OI x
theorem acC:OK acB:=aD acA (fun x=>by kernel_rfl) aX aY
def acD:An:=qn<|qn<|qn<|qn<|un<|qn<|.l true 0 M50 AB .n
def acE:=cn 121 [yI,I] [I] fun x=>yP x.1 x.2
theorem Xw:OK acE:=aD acD (fun x=>by kernel_rfl) (az acz (az acC aX)) aY
def acF:An:=qn<|qn<|un<|qn<|.l false 0 ⟨[I,I],[(5,.lf I),(6,.lf I)],nh⟩ N3 <|un<|un<|.j false ⟨[B],[(16,.lf B)],nh⟩ .n
def acG (n:Nat):j3 GT:=⟨111,[.lf dw,.lf I],[dw,I],[I],fun x=>Ik n x.1 x.2⟩
theorem Xx:∀ n,(acG n).Ok E0 hp sp.ge
 | 0=>fun x r h=>nomatch h
 | n+1=>aD acF (fun x=>by kernel_rfl) (az (Xx n) aX) aY
def acH:=cn 111 [dw,I] [I] fun x=>Te x.1 x.2
theorem acI:OK acH:=Xx fuel
def acJ:An:=qn<|qn<|qn<|un<|qn<|.l true 0 N3 AB .n
def acK (n:Nat):j3 GT:=⟨112,[.lf dw,.lf I],[dw,I],[B],fun x=>JL n x.1 x.2⟩
theorem Xy:∀ n,(acK n).Ok E0 hp sp.ge
 | 0=>fun x r h=>nomatch h
 | n+1=>aD acJ (fun x=>by kernel_rfl) (az (Xy n) aX) aY
def acL:=cn 112 [dw,I] [B] fun x=>Tf x.1 x.2
theorem acM:OK acL:=Xy fuel
def a63:An:=qn<|un<|.j false Ww .n
def c63:=cn 63 [dw] [B] fun x=>m63 x
theorem k63:OK c63:=aD a63 (fun x=>by kernel_rfl) (az acI (az acM aX)) aY
def acN:An:=qn<|.s [un<|.j false M59 .n,qn<|.s [un<|.j false ⟨[B],[(42,.lf B)],nh⟩ .n,qn<|.s [qn<|.j false M50 .n,.s [qn<|.j false M50 .n,un<|un<|.j false ⟨[B],[(58,.lf B)],nh⟩ .n]]]]
def acO:=cn 261 [dw,I] [I] fun x=>B8 x.1 x.2
theorem acP:OK acO:=aD acN (fun x=>by kernel_rfl) aX aY
def acQ:An:=qn<|qn<|un<|qn<|.l true 0 M50 AB .n
def acR (n:Nat):j3 GT:=⟨238,[.lf dw,.lf I],[dw,I],[I],fun x=>pH n x.1 x.2⟩
theorem Xz:∀ n,(acR n).Ok E0 hp sp.ge
 | 0=>fun x r h=>nomatch h
 | n+1=>aD acQ (fun x=>by kernel_rfl) (az (Xz n) (az acP aX)) aY
def acS:=cn 238 [dw,I] [I] fun x=>JM x.1 x.2
theorem acT:OK acS:=Xz fuel
def acU:An:=qn<|un<|un<|.j false ⟨[B],[(10,.lf B)],nh⟩ .n
def acV:=cn 200 [dw,I] [I] fun x=>vM x.1 x.2
theorem acW:OK acV:=aD acU (fun x=>by kernel_rfl) (az k63 (az acT aX)) aY
def acX:An:=qn<|qn<|un<|qn<|.l true 0 N3 AB .n
def acY (n:Nat):j3 GT:=⟨239,[.lf dw,.lf I],[dw,I],[B],fun x=>JN n x.1 x.2⟩
theorem XA:∀ n,(acY n).Ok E0 hp sp.ge
 | 0=>fun x r h=>nomatch h
 | n+1=>aD acX (fun x=>by kernel_rfl) (az (XA n) aX) aY
def acZ:=cn 239 [dw,I] [B] fun x=>Tg x.1 x.2
theorem ac0:OK acZ:=XA fuel
def ac1:An:=qn<|un<|qn<|.l true 0 N3 AB <|qn<|un<|un<|.j false ⟨[B],[(33,.lf B)],nh⟩ .n
def ac2:=cn 201 [yI,I] [B] fun x=>OJ x.1 x.2
theorem ac3:OK ac2:=aD ac1 (fun x=>by kernel_rfl) (az Td (az ac0 aX)) aY
def ac4:An:=qn<|un<|.j false Ww .n
def ac5:=cn 202 [dw] [B] fun x=>Il x
theorem ac6:OK ac5:=aD ac4 (fun x=>by kernel_rfl) aX aY
def ac7:An:=qn<|qn<|qn<|.s [un<|.j false ⟨[B],[(32,.lf B)],qt⟩ .n,qn<|qn<|.s [qn<|.j true VW .n,.s [un<|.j false ⟨[B],[(63,.lf B)],qt⟩ .n,.s [un<|.j false ⟨[B],[(74,.lf B)],qt⟩ .n,un<|un<|.j false ⟨[B],[(95,.lf B)],qt⟩ .n]]]]
def ac8:=cn 122 [yI,I] [I] fun x=>B9 x.1 x.2
theorem ac9:OK ac8:=aD ac7 (fun x=>by kernel_rfl) (az Td (az Xw (az Tc (az acW (az ac3 (az ac6 aX)))))) aY
def ada:An:=qn<|.s [un<|.j false ⟨[B],[(19,.lf B)],nh⟩ .n,un<|qn<|.l true 0 ⟨[I],[(26,.lf I)],nh⟩ AB <|qn<|qn<|un<|.s [.o [(0,.j true ⟨Sv,[(28,.bZ [.lf (.list I)])],nh⟩ .n)],qn<|.l true 2 N3 AB <|qn<|un<|un<|.j false ⟨[B],[(49,.lf B)],nh⟩ .n]]
def adb:=cn 123 [yI] [I] fun x=>OL x
theorem ade:OK adb:=aD ada (fun x=>by kernel_rfl) (az Tc aX) aY
def a69:An:=qn<|.s [un<|.j false M59 .n,.s [un<|.j false ⟨[B],[(24,.lf B)],nh⟩ .n,.s [qn<|.l true 0 Wu AB .n,un<|qn<|.l true 2 N3 AB .n]]]
def c69:=cn 69 [yI] [I] fun x=>VT x
theorem k69:OK c69:=aD a69 (fun x=>by kernel_rfl) (az Xw (az ac9 (az ade aX))) aY
def adf:An:=qn<|.s [un<|.j false M60 .n,.s [qn<|.l true 0 ⟨[I],NN,qt⟩ VW <|qn<|un<|un<|.j false ⟨[B],[(70,.lf B)],qt⟩ .n,.s [qn<|.l true 2 M64 VW <|qn<|un<|un<|.j false ⟨[B],[(91,.lf B)],qt⟩ .n,un<|qn<|.l true 4 ⟨[I],[(7,.lf I)],qt⟩ VW <|qn<|un<|qn<|un<|.j false ⟨[B],[(132,.lf B)],qt⟩ .n]]]
def adg:=cn 133 [yI,Jv] [I] fun x=>Oj x.1 x.2
theorem adh:OK adg:=aD adf (fun x=>by kernel_rfl) aX aY
def a77:An:= .n
def c77:=cn 77 [yI,Jv] [I] fun x=>Z1 x.1 x.2
theorem k77:OK c77:=aD a77 (fun x=>by kernel_rfl) (az k69 (az adh aX)) aY
def a93:An:=qn<|qn<|un<|qn<|.l false 0 ⟨[I,(.list B)],[(5,.own 2),(6,.lf I)],[.dead,.dead,.aL .nil B]⟩ ⟨[(.list B)],[(5,.own 2)],[.dead,.dead,.aL .nil B]⟩ .n
def c93:=cn 93 [yI,Jv] [.list B] fun x=>Z2 x.1 x.2
theorem k93:OK c93:=aD a93 (fun x=>by kernel_rfl) aX aY
def a78:An:=qn<|qn<|qn<|un<|qn<|.l false 0 ⟨[I,I,I],[(8,.lf I),(9,.lf I),(10,.lf I)],qt⟩ ⟨[I,I],[(8,.lf I),(9,.lf I)],qt⟩ <|qn<|un<|qn<|.j false ⟨[I,I],[(8,.lf I),(9,.lf I)],qt⟩ .n
def c78:=cn 78 [yI,Jv,.list I] [I] fun x=>WK x.1 x.2.1 x.2.2
theorem k78:OK c78:=aD a78 (fun x=>by kernel_rfl) (az k93 aX) aY
def a39:An:= .n
def c39:=cn 39 [sn,Jv] [I,I] fun x=>m39 x.1 x.2
theorem k39:OK c39:=aD a39 (fun x=>by kernel_rfl) (az k61 (az k62 (az k77 (az k71 (az k78 aX))))) aY
def a9:An:=qn<|.s [un<|.j false ⟨[B],[(16,.lf B)],qt⟩ .n,qn<|qn<|un<|.j false ⟨[B],[(4,.lf B)],qt⟩ .n]
def c9:=cn 9 [sn,Jv] [B] fun x=>m9 x.1 x.2
theorem k9:OK c9:=aD a9 (fun x=>by kernel_rfl) (az k15 (az k16 (az k25 (az k38 (az k39 aX))))) aY
end cK
end
