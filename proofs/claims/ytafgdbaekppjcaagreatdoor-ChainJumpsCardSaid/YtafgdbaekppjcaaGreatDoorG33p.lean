/- The code computes the models, printed by a program of mine (dec3.py). No condition. -/
import Derived.Test.YtafgdbaekppjcaaGreatDoorG33a
set_option linter.unusedSectionVars false
set_option linter.unusedVariables false
set_option linter.unusedSimpArgs false
namespace ck
open Go hiding Obj mark
open Go.Pl Go.Am Go.Am.As oe
def cn (f:Nat) (ts rs:List Ty) (m:DL GT ts->Option (DL GT rs)):gS GT:=⟨f,ts.map .lf,ts,rs,m⟩
abbrev OK (c:gS GT):Prop:=c.Ok E0 hp sp.ge
def qn (a:An):An:= .s [.n,a]
def un (a:An):An:= .s [a]
def Ys:List Oh:=[.dead,.dead,.arr 6 B]
def Y27:List Ty:=[I,(.arr 6 B),(.arr 6 B)]
def Y31:List Ty:=[(.arr 6 B),(.arr 6 B)]
def Ux:List (Nat×Sh):=[(8,.lf I)]
def O26:Oh:= .box [.lf I,.lf (.list vG),.lf I,.own 2,.own 3]
def qD:List Oh:=[.dead,.box [.lf I,.lf (.list vG),.lf I,.lf (.list I),.own 3],.dead,.aQ .nil I]
def H17:List Oh:=[.dead,.dead,.box [.own 3],.aQ .nil dQ,.dead,.lp .ready 0]
def H25:List Oh:=[.aQ .nil dQ,.dead,.aQ .norm dM,.aQ .nil dM]
def Y22:List Ty:=[I,S,I,I,I,(.list dM),I,I,(.list dM),I,B,(.list dM)]
def O3:Oh:= .box [.lf S,.lf I,.lf I,.lf I,.lf (.list dM),.lf I,.lf I,.lf (.list dM),.lf I,.lf B]
def H24:List Oh:=[O3,.aQ .nil dM]
def Y10:List Ty:=[S,I,I,I,(.list dM),I,I,(.list dM),I,B,(.list dM)]
def H9:List Oh:=[.box [.lf I,.lf (.list S),.lf (.list dQ),.lf (.list I),.lf (.list I)],.aQ .norm S,.aQ .norm dQ,.ew,.box [.lf I,.own 1,.own 2,.own 5,.own 6],.aQ .nil I,.aQ .nil I]
def Y5:List Ty:=[B,(.list S),(.list I),I,(.list S),(.list dQ),(.list I),(.list I)]
def O0:Oh:= .box [.lf I,.lf (.list S),.lf (.list dQ),.lf (.list I),.lf (.list I),.c (.mp 2),.c (.eD 179 [.aJ 3 1 0 0]),.c (.eD 180 [.aJ 3 1 0 0]),.c (.eD 181 [.aJ 3 1 0 0])]
def H6:List Oh:=[.dead,.dead,.mg,O0]
def Y2:List Ty:=[I,(.list S),(.list I),I,(.list S),(.list dQ),(.list I),(.list I)]
def XY:List Oh:=[.lp .busy 999]
def Fj:Oh:= .box [.lf I]
def XZ:Oh:= .box [.lf B]
def O18:Oh:= .box [.fn 265 [.po 8 0,.po 9 0]]
def H4:List Oh:=[.dead,Fj,Fj,XZ,Fj,Fj,.dead,.lp .ready 0,.box [.c (.fA 7)],O18]
def Fv:List Oh:=[.dead,.dead]
def H8:List Oh:=[.dead,.dead,Fj,.dead,.lp .ready 0,.box [.c (.fA 4)],.box [.fn 265 [.po 5 0,.po 6 0]]]
def H23:List Oh:=[.dead,.dead,.mg,O0,.dead]
def Y7:List Ty:=[(.list S),(.list I),I,(.list S),(.list dQ),(.list I),(.list I),B,I]
def H1:List Oh:=[.dead,.dead,.mg,O0,.box [.po 3 0],.dead,.dead,XZ,.dead,.box [.fn 228 [.po 4 0,.po 7 0,.bR [.lf I]]],.box [.fn 255 [.po 9 0,.po 10 0]]]
def Y15:List Ty:=[I,(.list S),(.list I),I,(.list S),(.list dQ),(.list I),(.list I),B,I]
def Y12:List Ty:=[(.list S),(.list I),I,(.list S),(.list dQ),(.list I),(.list I)]
def H30:List Oh:=[.dead,.dead,.mg,O0,.aQ .norm (.list I)]
def H21:List Oh:=[.dead,.dead,.mg,O0,.aQ .norm (.list I),.aQ .norm I]
def H16:List Oh:=[.dead,.dead,.box [.lf (.list B)],Fj,.dead,.lp .ready 0,.arr 6 B]
def a10:An:=qn<|qn<|un<|qn<|.l true 0 ⟨[I],[(3,.lf I)],[.dead],false⟩ ⟨[],[],[.dead],false⟩ .n
def Yt:=cn 10 [uM] [B] fun x=>m10 x
theorem k10:OK Yt:=aH a10 (fun x=>by kernel_rfl) bh bk
def abV:An:=qn<|un<|.j false ⟨[B],[(2,.lf B)],[],false⟩ .n
def abW:=cn 250 [I] [B] fun x=>U6 x
theorem abX:OK abW:=aH abV (fun x=>by kernel_rfl) bh bk
def abY:An:=qn<|qn<|qn<|.s [qn<|.l true 1 ⟨[I,I],[(4,.lf I),(19,.lf I)],[.dead],false⟩ ⟨[],[],[.dead],false⟩ .n,un<|un<|.j false ⟨[B],[(48,.lf B)],[.dead],false⟩ .n]
def abZ:=cn 212 [vG] [I] fun x=>QD x
theorem ab0:OK abZ:=aH abY (fun x=>by kernel_rfl) (az abX bh) bk
def ab1:An:=qn<|qn<|.s [qn<|.l true 0 ⟨[I,(.arr 6 B)],[(20,.lf I)],Ys,false⟩ ⟨[(.arr 6 B)],[],Ys,false⟩ .n,un<|qn<|.l true 2 ⟨[I,(.arr 6 B)],[(33,.lf I)],Ys,false⟩ ⟨[(.arr 6 B)],[],Ys,false⟩ .n]
def ab2:=cn 139 [uM,vG,.arr 6 B] [I] fun x=>QE x.1 x.2.1 x.2.2
theorem ab3:OK ab2:=aH ab1 (fun x=>by kernel_rfl) (az ab0 bh) bk
def ab4:An:=qn<|un<|qn<|.l false 0 ⟨Y27,[(10,.lf I)],[.arr 6 B,.dead,.arr 6 B],false⟩ ⟨Y31,[],[.arr 6 B,.dead,.arr 6 B],false⟩ .n
def ab5:=cn 140 [.arr 6 B,vG] [.arr 6 B] fun x=>K0 x.1 x.2
theorem Zm:OK ab5:=aH ab4 (fun x=>by kernel_rfl) bh bk
def ab6:An:=qn<|un<|qn<|.l true 0 ⟨[I],Ux,[],false⟩ ⟨[],[],[],false⟩ .n
def ab7:=cn 213 [.list B,B] [I] fun x=>U7 x.1 x.2
theorem ab8:OK ab7:=aH ab6 (fun x=>by kernel_rfl) bh bk
def ab9:An:= .n
def acd:=cn 141 [.list B,B] [B] fun x=>QF x.1 x.2
theorem ace:OK acd:=aH ab9 (fun x=>by kernel_rfl) (az ab8 bh) bk
def a81:An:=qn<|.s [un<|.j false ⟨[B],[(10,.lf B)],[.dead],false⟩ .n,qn<|un<|qn<|.l true 1 ⟨Y27,[(32,.lf I)],[.dead,.arr 6 B,.arr 6 B],false⟩ ⟨Y31,[],[.dead,.arr 6 B,.arr 6 B],false⟩ <|qn<|qn<|un<|qn<|qn<|qn<|qn<|.l false 3 ⟨Y27,[(49,.lf I)],[.dead,.arr 6 B,.arr 6 B,.dead],false⟩ ⟨Y31,[],[.dead,.arr 6 B,.arr 6 B,.dead],false⟩ .n]
def c81:=cn 81 [uM] [I] fun x=>Yu x
theorem k81:OK c81:=aH a81 (fun x=>by kernel_rfl) (az ab3 (az Zm (az ace bh))) bk
def a82:An:=qn<|qn<|qn<|.s [qn<|.l false 0 ⟨[I,I,I,(.list vG),I,(.list I),(.list I)],[(4,.lf I),(25,.lf I)],[.dead,O26,.aQ .nil I,.aQ .nil I],false⟩ ⟨[I,(.list vG),I,(.list I),(.list I)],[],qD,false⟩ <|qn<|qn<|un<|qn<|qn<|qn<|qn<|.j false ⟨[I,I,(.list vG),I,(.list I),(.list I)],[(4,.lf I)],[.dead,O26,.aQ .nil I,.aQ .nil I,.dead],false⟩ .n,un<|qn<|.j false ⟨[I,(.list vG),I,(.list I),(.list I)],[],qD,false⟩ .n]
def c82:=cn 82 [uM] [.ptr qK] fun x=>Yv x
theorem k82:OK c82:=aH a82 (fun x=>by kernel_rfl) bh bk
def acf:An:= .n
def acg:=cn 217 [I] [dM] fun x=>uQ x
theorem FF:OK acg:=aH acf (fun x=>by kernel_rfl) bh bk
def Zn:An:=qn<|qn<|un<|.o [(2,qn<|qn<|un<|qn<|.l false 0 ⟨[I,(.list dM)],[(5,.own 0),(19,.lf I)],[.aQ .nil dM],false⟩ ⟨[(.list dM)],[(5,.own 0)],[.aQ .nil dM],false⟩ <|qn<|qn<|un<|qn<|qn<|un<|qn<|.j false ⟨[I,(.list dM)],Ux,[.aQ .nil dM,.dead],false⟩ .n)]
def ach:=cn 215 [.ptr qK,I] [.list dM] fun x=>FG x.1 x.2
theorem aci:OK ach:=aH Zn (fun x=>by kernel_rfl) (az FF bh) bk
def d215:dG GT:=⟨215,[.lf (.ptr qK),.lf I],[(.ptr qK),I],dM,fun x=>FG x.1 x.2⟩
theorem acj:d215.Ok E0 hp sp.ge:=oo Zn (fun x=>by kernel_rfl) (az FF bh) bk
def ack:An:= .n
def acm:=cn 214 [I,.list dM] [dM] fun x=>A8 x.1 x.2
theorem QG:OK acm:=aH ack (fun x=>by kernel_rfl) bh bk
def acn:An:= .n
def aco:=cn 216 [.ptr qK] [dM] fun x=>QH x
theorem acp:OK aco:=aH acn (fun x=>by kernel_rfl) (az FF bh) bk
def acq:An:= .n
def acr:=cn 268 [I] [S] fun x=>Zo x
theorem acs:OK acr:=aH acq (fun x=>by kernel_rfl) bh bk
def acu:An:=qn<|un<|qn<|un<|.s [un<|.j false ⟨[B],[(17,.lf B)],[],false⟩ .n,qn<|qn<|un<|qn<|.j false ⟨[(.int .u64),(.arr 24 (.int .u8))],[(6,.lf (.int .u64))],[.arr 24 (.int .u8)],false⟩ .n]
def acv:=cn 254 [I,I] [S] fun x=>Zp x.1 x.2
theorem acw:OK acv:=aH acu (fun x=>by kernel_rfl) (az acs bh) bk
def acy:An:= .n
def acz:=cn 225 [I] [S] fun x=>Zq x
theorem acA:OK acz:=aH acy (fun x=>by kernel_rfl) (az acw bh) bk
def acB:An:= .n
def acC:=cn 172 [I] [S] fun x=>K3 x
theorem Zr:OK acC:=aH acB (fun x=>by kernel_rfl) (az acA bh) bk
def acD:An:=qn<|qn<|qn<|qn<|un<|qn<|qn<|.l false 0 ⟨[I,(.list dQ)],[(5,.lf I)],H17,false⟩ ⟨[(.list dQ)],[],H17,false⟩ <|qn<|qn<|un<|qn<|un<|.o [(13,qn<|qn<|un<|qn<|.j false ⟨[(.list dQ),I,I,(.list dM)],[(7,.own 7)],[.dead,.dead,.box [.own 3],.aQ .nil dQ,.dead,.lp .busy 0,.box [.lf I,.lf I],.aQ .norm dM],false⟩ .n)]
def d142:dG GT:=⟨142,[.lf (.ptr qK)],[(.ptr qK)],dQ,fun x=>QI x⟩
theorem acE:d142.Ok E0 hp sp.ge:=oo acD (fun x=>by kernel_rfl) (az aci (az QG (az acp (az FF (az Zr bh))))) (uh acj bk)
def acF:An:=qn<|qn<|un<|qn<|.l false 0 ⟨[I,(.list dQ)],[(3,.own 0),(13,.lf I)],[.aQ .nil dQ],false⟩ ⟨[(.list dQ)],[(3,.own 0)],[.aQ .nil dQ],false⟩ <|qn<|qn<|un<|qn<|qn<|.j false ⟨[(.list dQ)],[(3,.own 0)],[.aQ .nil dQ,.dead],false⟩ <|un<|un<|.o [(11,qn<|qn<|un<|qn<|.l false 0 ⟨[I,(.list dQ),(.list dM),(.list dM)],[(5,.own 3),(19,.lf I)],H25,false⟩ ⟨[(.list dQ),(.list dM),(.list dM)],[(5,.own 3)],H25,false⟩ <|qn<|qn<|un<|qn<|qn<|un<|qn<|.j false ⟨[I,(.list dQ),(.list dM),(.list dM)],Ux,[.aQ .nil dQ,.dead,.aQ .norm dM,.aQ .nil dM,.dead],false⟩ .n)]
def acG:=cn 143 [.ptr qK] [.list dQ] fun x=>QJ x
theorem acH:OK acG:=aH acF (fun x=>by kernel_rfl) (az FF (az Zr (az QG bh))) bk
def acI:An:= .n
def acJ:gS GT:=⟨145,[.lf Jv,.bR [.lf I]],[Jv,I],[B],fun x=>QK x.1 x.2⟩
theorem acK:OK acJ:=aH acI (fun x=>by kernel_rfl) bh bk
def NG:An:=qn<|un<|qn<|.l true 0 ⟨[I],Ux,[],false⟩ ⟨[],[],[],false⟩ .n
def NH:gS GT:=⟨252,[.lf (.list Jv),.fn 145 [.bR [.lf I]]],[(.list Jv),I],[I],fun x=>xb x.1 x.2⟩
theorem NI:OK NH:=aH NG (fun x=>by kernel_rfl) (az acK bh) bk
def NJ:An:= .n
def NK:gS GT:=⟨220,[.lf (.list Jv),.fn 145 [.bR [.lf I]]],[(.list Jv),I],[B],fun x=>rP x.1 x.2⟩
theorem NL:OK NK:=aH NJ (fun x=>by kernel_rfl) (az NI bh) bk
def NM:An:=qn<|qn<|un<|qn<|.l false 0 ⟨Y22,[(7,.own 1),(16,.lf I)],H24,false⟩ ⟨Y10,[(7,.own 1)],H24,false⟩ <|qn<|qn<|un<|qn<|qn<|.j false ⟨Y10,[(7,.own 1)],[O3,.aQ .nil dM,.dead],false⟩ .n
def NN:gS GT:=⟨144,[.lf (.ptr qK),.lf S,.fn 145 [.bR [.lf I]]],[(.ptr qK),S,I],[dQ],fun x=>rQ x.1 x.2.1 x.2.2⟩
theorem NO:OK NN:=aH NM (fun x=>by kernel_rfl) (az NL (az FF (az QG bh))) bk
def acL:An:= .n
def acM:gS GT:=⟨146,[.lf Jv,.bR [.lf I]],[Jv,I],[B],fun x=>QL x.1 x.2⟩
theorem acN:OK acM:=aH acL (fun x=>by kernel_rfl) bh bk
def NP:An:=qn<|un<|qn<|.l true 0 ⟨[I],Ux,[],false⟩ ⟨[],[],[],false⟩ .n
def NQ:gS GT:=⟨252,[.lf (.list Jv),.fn 146 [.bR [.lf I]]],[(.list Jv),I],[I],fun x=>xd x.1 x.2⟩
theorem NR:OK NQ:=aH NP (fun x=>by kernel_rfl) (az acN bh) bk
def NS:An:= .n
def NT:gS GT:=⟨220,[.lf (.list Jv),.fn 146 [.bR [.lf I]]],[(.list Jv),I],[B],fun x=>rR x.1 x.2⟩
theorem NU:OK NT:=aH NS (fun x=>by kernel_rfl) (az NR bh) bk
def NV:An:=qn<|qn<|un<|qn<|.l false 0 ⟨Y22,[(7,.own 1),(16,.lf I)],H24,false⟩ ⟨Y10,[(7,.own 1)],H24,false⟩ <|qn<|qn<|un<|qn<|qn<|.j false ⟨Y10,[(7,.own 1)],[O3,.aQ .nil dM,.dead],false⟩ .n
def NW:gS GT:=⟨144,[.lf (.ptr qK),.lf S,.fn 146 [.bR [.lf I]]],[(.ptr qK),S,I],[dQ],fun x=>rS x.1 x.2.1 x.2.2⟩
theorem NX:OK NW:=aH NV (fun x=>by kernel_rfl) (az NU (az FF (az QG bh))) bk
def a83:An:=qn<|qn<|un<|qn<|.l false 0 ⟨[I,I,(.list S),(.list dQ),(.list I),(.list I),(.list S),(.list dQ),I,(.list I),(.list I)],[(24,.lf I)],H9,false⟩ ⟨[I,(.list S),(.list dQ),(.list I),(.list I),(.list S),(.list dQ),I,(.list I),(.list I)],[],H9,false⟩ .n
def c83:=cn 83 [.ptr qK] [Jw] fun x=>m83 x
theorem k83:OK c83:=aH a83 (fun x=>by kernel_rfl) (az acH (az NO (az NX bh))) (uh acE bk)
def a43:An:= .n
def c43:=cn 43 [uM] [.dO qK,Jw,I] fun x=>m43 x
theorem k43:OK c43:=aH a43 (fun x=>by kernel_rfl) (az k81 (az k82 (az k83 bh))) bk
def acO:An:= .n
def acP:=cn 138 [Jw] [I] fun x=>pK x
theorem K4:OK acP:=aH acO (fun x=>by kernel_rfl) bh bk
def acQ:An:= .n
def acR:=cn 182 [Jw,I] [S] fun x=>QC x.1 x.2
theorem acS:OK acR:=aH acQ (fun x=>by kernel_rfl) (az K4 bh) bk
def acT:An:=qn<|un<|.j false ⟨[B],[(2,.lf B)],[],false⟩ .n
def acU:=cn 232 [.int .u8] [B] fun x=>QM x
theorem acV:OK acU:=aH acT (fun x=>by kernel_rfl) bh bk
def acW:An:=qn<|un<|.j false ⟨[B],[(2,.lf B)],[],false⟩ .n
def acX:=cn 231 [.int .i32] [B] fun x=>QN x
theorem acY:OK acX:=aH acW (fun x=>by kernel_rfl) (az acV bh) bk
def NY:An:=qn<|un<|qn<|.l true 0 ⟨[S,I],[],[.yN],false⟩ ⟨[],[],[],false⟩ .n
def NZ:gS GT:=⟨272,[.lf S,.fn 231 [],.lf B],[S,B],[I],fun x=>xe x.1 x.2⟩
theorem N0:OK NZ:=aH NY (fun x=>by kernel_rfl) (az acY bh) bk
def N1:An:= .n
def N2:gS GT:=⟨256,[.lf S,.fn 231 []],[S],[I],fun x=>xg x⟩
theorem N3:OK N2:=aH N1 (fun x=>by kernel_rfl) (az N0 bh) bk
def N4:An:= .n
def N5:gS GT:=⟨230,[.lf S,.fn 231 []],[S],[B],fun x=>nQ x⟩
theorem N6:OK N5:=aH N4 (fun x=>by kernel_rfl) (az N3 bh) bk
def aah:An:=qn<|.s [un<|.j false ⟨Y5,[(22,.lf B)],H6,false⟩ .n,qn<|un<|un<|.o [(5,.j true ⟨[I,B,(.list S),(.list I),I,(.list S),(.list dQ),(.list I),(.list I)],[(32,.aY [.lf I,.lf B])],H6,false⟩ .n)]]
noncomputable def aai:AU:=⟨[.po 3 0,.lf S],[.dead,.dead,.mg,.box [.lf I,.lf (.list S),.lf (.list dQ),.lf (.list I),.lf (.list I),.c (.mp 2),.c (.eD 179 [.aJ 3 1 0 0]),.c (.eD 180 [.aJ 3 1 0 0]),.c (.eD 181 [.aJ 3 1 0 0])]],[]⟩
def aaj:dA:=⟨[.lf I],H6,Y2⟩
def aak:dA:=⟨[],XY,[]⟩
noncomputable def aal:eR GT:=⟨183,aai,[S,(.list S),(.list I),I,(.list S),(.list dQ),(.list I),(.list I)],aaj,aak,fun x=>zA x.1 x.2.1 x.2.2.1 x.2.2.2.1 x.2.2.2.2.1 x.2.2.2.2.2.1 x.2.2.2.2.2.2.1 x.2.2.2.2.2.2.2⟩
theorem TE:aal.Ok E0 hp sp.ge:=iN aah (fun x=>by kernel_rfl) (az N6 bh) bk ic oX
def acZ:An:= .n
def ac0:=cn 131 [Jw] [I] fun x=>FH x
theorem U8:OK ac0:=aH acZ (fun x=>by kernel_rfl) (az K4 bh) bk
def aam:An:=qn<|.s [un<|.o [(3,qn<|qn<|qn<|un<|.j false ⟨[B,I,I,B,I,I],[(22,.lf B)],[.dead,Fj,Fj,XZ,Fj,Fj,.dead,.lp .busy 0,.box [.c (.fA 7)],O18],false⟩ .n)],un<|qn<|.l true 0 ⟨[I,I,I,B,I,I],[(17,.lf I)],H4,false⟩ ⟨[I,I,B,I,I],[],H4,false⟩ .n]
noncomputable def TF:AU:=⟨[.lf dM,.lf I,.po 8 0,.po 9 0],[.dead,.box [.lf I],.box [.lf I],.box [.lf B],.box [.lf I],.box [.lf I],.dead,.lp .ready 0,.box [.c (.fA 7)],.box [.fn 265 [.po 8 0,.po 9 0]]],[(25,[(2,.po 1 0),(3,.po 2 0),(4,.po 3 0),(5,.po 4 0),(6,.po 5 0),(9,.fn 264 [.bR [.lf I,.lf I,.lf (.list dM)]])],c3 245 0)]⟩
def TG:dA:=⟨[.cb false],[.dead,Fj,Fj,XZ,Fj,Fj,.dead,.lp (.done .ret) 0,.box [.c (.fA 7)],O18],[I,I,B,I,I]⟩
def TH:dA:=⟨[.cb true],H4,[I,I,B,I,I]⟩
noncomputable def aan (n:Nat):eR GT:=⟨265,TF,[dM,I,I,I,B,I,I,I,I,(.list dM)],TG,TH,fun x=>zB n x.1 x.2.1 x.2.2.1 x.2.2.2.1 x.2.2.2.2.1 x.2.2.2.2.2.1 x.2.2.2.2.2.2.1 x.2.2.2.2.2.2.2.1 x.2.2.2.2.2.2.2.2.1 x.2.2.2.2.2.2.2.2.2⟩
theorem TI:∀ n,(aan n).Ok E0 hp sp.ge
 | 0=>fun x r h=>nomatch h
 | n+1=>iN aam (fun x=>by kernel_rfl) bh bk (mV (TI n) ic) oX
noncomputable def aao:eR GT:=⟨265,TF,[dM,I,I,I,B,I,I,I,I,(.list dM)],TG,TH,fun x=>LL x.1 x.2.1 x.2.2.1 x.2.2.2.1 x.2.2.2.2.1 x.2.2.2.2.2.1 x.2.2.2.2.2.2.1 x.2.2.2.2.2.2.2.1 x.2.2.2.2.2.2.2.2.1 x.2.2.2.2.2.2.2.2.2⟩
theorem aap:aao.Ok E0 hp sp.ge:=TI fuel
def ac1:An:= .n
def ac2:=cn 245 [dM] [I,I,B] fun x=>QO x
theorem ac3:OK ac2:=kI ac1 (fun x=>by kernel_rfl) bh bk (mV aap ic) oX
theorem Zs:Pt E0 hp 248 [] (.agg [.int .i64 0,.int .i64 0,.jw,.int .i64 0,.int .i64 0,.jw,.int .i64 1,.int .i64 1,.fn 287 [.bR [.bool false]],.int .i64 2,.int .i64 256,.fn 287 [.bR [.bool true]],.int .i64 2,.int .i64 256,.fn 267 []]):=U9 (by kernel_rfl) (by kernel_rfl)
def ac4:An:=qn<|.s [un<|.j false ⟨[B],[(14,.lf B)],[.dead],false⟩ .n,qn<|.s [un<|.j false ⟨[B],[(32,.lf B)],Fv,false⟩ .n,qn<|.s [qn<|qn<|.j false ⟨[I],[(6,.lf I)],Fv,false⟩ <|qn<|qn<|.j false ⟨[I],[(6,.lf I)],Fv,false⟩ .n,un<|un<|.j false ⟨[B],[(49,.lf B)],Fv,false⟩ .n]]]
def ac5:=cn 247 [dM,I] [I] fun x=>K5 x.1 x.2
theorem ac6:OK ac5:=kI ac4 (fun x=>by kernel_rfl) bh bk ic (HF (p:=(248,[],.agg [.int .i64 0,.int .i64 0,.jw,.int .i64 0,.int .i64 0,.jw,.int .i64 1,.int .i64 1,.fn 287 [.bR [.bool false]],.int .i64 2,.int .i64 256,.fn 287 [.bR [.bool true]],.int .i64 2,.int .i64 256,.fn 267 []])) Zs oX)
def Wa:An:=qn<|qn<|un<|qn<|.l true 0 ⟨[I,I],[(17,.lf I)],H8,false⟩ ⟨[I],[],H8,false⟩ .n
noncomputable def MG:AU:=⟨[.lf dM,.lf I,.po 5 0,.po 6 0],[.dead,.dead,.box [.lf I],.dead,.lp .ready 0,.box [.c (.fA 4)],.box [.fn 265 [.po 5 0,.po 6 0]]],[(35,[(3,.bR [.lf I]),(4,.po 2 0),(26,.fn 264 [.bR [.lf I,.lf I,.lf (.list dM)]])],c3 210 0)]⟩
def MH:dA:=⟨[.cb false],[.dead,.dead,Fj,.dead,.lp (.done .ret) 0,.box [.c (.fA 4)],.box [.fn 265 [.po 5 0,.po 6 0]]],[I]⟩
def MI:dA:=⟨[.cb true],H8,[I]⟩
noncomputable def Wb (n:Nat):eR GT:=⟨265,MG,[dM,I,I,I,I,I,(.list dM)],MH,MI,fun x=>pT n x.1 x.2.1 x.2.2.1 x.2.2.2.1 x.2.2.2.2.1 x.2.2.2.2.2.1 x.2.2.2.2.2.2⟩
theorem MJ:∀ n,(Wb n).Ok E0 hp sp.ge
 | 0=>fun x r h=>nomatch h
 | n+1=>iN Wa (fun x=>by kernel_rfl) (az ac6 bh) bk (mV (MJ n) ic) oX
noncomputable def Wc:eR GT:=⟨265,MG,[dM,I,I,I,I,I,(.list dM)],MH,MI,fun x=>F5 x.1 x.2.1 x.2.2.1 x.2.2.2.1 x.2.2.2.2.1 x.2.2.2.2.2.1 x.2.2.2.2.2.2⟩
theorem Wd:Wc.Ok E0 hp sp.ge:=MJ fuel
def ac7:An:=qn<|un<|un<|.j false ⟨[B,I],[(16,.lf B)],[.dead,.dead,Fj],false⟩ .n
def ac8:=cn 210 [dM,I] [I] fun x=>JG x.1 x.2
theorem Va:OK ac8:=kI ac7 (fun x=>by kernel_rfl) (az ac3 bh) bk (mV Wd ic) oX
def ac9:An:=qn<|un<|.j false ⟨[B],[(2,.lf B)],[.dead],false⟩ .n
def ada:=cn 229 [dM] [B] fun x=>K6 x
theorem Zt:OK ada:=aH ac9 (fun x=>by kernel_rfl) bh bk
def aaq:An:=qn<|un<|qn<|.s [.j false ⟨Y5,[(14,.lf B)],H23,false⟩ .n,qn<|un<|.j false ⟨Y5,[(23,.lf B)],H23,false⟩ .n]
noncomputable def aar:AU:=⟨[.po 3 0,.lf I],[.dead,.dead,.mg,.box [.lf I,.lf (.list S),.lf (.list dQ),.lf (.list I),.lf (.list I),.c (.mp 2),.c (.eD 179 [.aJ 3 1 0 0]),.c (.eD 180 [.aJ 3 1 0 0]),.c (.eD 181 [.aJ 3 1 0 0])]],[]⟩
def aas:dA:=⟨[.lf I],H23,Y2⟩
def aat:dA:=⟨[],XY,[]⟩
noncomputable def aau:eR GT:=⟨181,aar,[I,(.list S),(.list I),I,(.list S),(.list dQ),(.list I),(.list I)],aas,aat,fun x=>HG x.1 x.2.1 x.2.2.1 x.2.2.2.1 x.2.2.2.2.1 x.2.2.2.2.2.1 x.2.2.2.2.2.2.1 x.2.2.2.2.2.2.2⟩
theorem aav:aau.Ok E0 hp sp.ge:=iN aaq (fun x=>by kernel_rfl) (az Zt bh) bk ic oX
def aaw:An:= .n
noncomputable def aax:AU:=⟨[.po 3 0,.lf I],[.dead,.dead,.mg,.box [.lf I,.lf (.list S),.lf (.list dQ),.lf (.list I),.lf (.list I),.c (.mp 2),.c (.eD 179 [.aJ 3 1 0 0]),.c (.eD 180 [.aJ 3 1 0 0]),.c (.eD 181 [.aJ 3 1 0 0])]],[]⟩
def aay:dA:=⟨[.lf I],H6,Y2⟩
def aaz:dA:=⟨[],XY,[]⟩
noncomputable def aaA:eR GT:=⟨180,aax,[I,(.list S),(.list I),I,(.list S),(.list dQ),(.list I),(.list I)],aay,aaz,fun x=>HH x.1 x.2.1 x.2.2.1 x.2.2.2.1 x.2.2.2.2.1 x.2.2.2.2.2.1 x.2.2.2.2.2.2.1 x.2.2.2.2.2.2.2⟩
theorem aaB:aaA.Ok E0 hp sp.ge:=iN aaw (fun x=>by kernel_rfl) (az U8 (az Va bh)) bk ic oX
def aaC:An:=qn<|.s [qn<|.j false ⟨Y7,[],H1,false⟩ <|un<|.o [(3,qn<|.j false ⟨Y7,[],H1,false⟩ .n)],qn<|.l false 0 ⟨Y15,[(16,.lf I)],H1,false⟩ ⟨Y7,[],H1,false⟩ .n]
noncomputable def TJ:AU:=⟨[.lf dM,.po 9 0,.po 10 0],[.dead,.dead,.mg,.box [.lf I,.lf (.list S),.lf (.list dQ),.lf (.list I),.lf (.list I),.c (.mp 2),.c (.eD 179 [.aJ 3 1 0 0]),.c (.eD 180 [.aJ 3 1 0 0]),.c (.eD 181 [.aJ 3 1 0 0])],.box [.po 3 0],.dead,.dead,.box [.lf B],.dead,.box [.fn 228 [.po 4 0,.po 7 0,.bR [.lf I]]],.box [.fn 255 [.po 9 0,.po 10 0]]],[]⟩
def TK:dA:=⟨[],H1,Y7⟩
def TL:dA:=⟨[],XY,[]⟩
noncomputable def aaD (n:Nat):eR GT:=⟨255,TJ,[dM,(.list S),(.list I),I,(.list S),(.list dQ),(.list I),(.list I),B,I],TK,TL,fun x=>CY n x.1 x.2.1 x.2.2.1 x.2.2.2.1 x.2.2.2.2.1 x.2.2.2.2.2.1 x.2.2.2.2.2.2.1 x.2.2.2.2.2.2.2.1 x.2.2.2.2.2.2.2.2.1 x.2.2.2.2.2.2.2.2.2⟩
theorem TM:∀ n,(aaD n).Ok E0 hp sp.ge
 | 0=>fun x r h=>nomatch h
 | n+1=>iN aaC (fun x=>by kernel_rfl) (az K4 bh) bk (mV (TM n) ic) oX
noncomputable def aaE:eR GT:=⟨255,TJ,[dM,(.list S),(.list I),I,(.list S),(.list dQ),(.list I),(.list I),B,I],TK,TL,fun x=>LM x.1 x.2.1 x.2.2.1 x.2.2.2.1 x.2.2.2.2.1 x.2.2.2.2.2.1 x.2.2.2.2.2.2.1 x.2.2.2.2.2.2.2.1 x.2.2.2.2.2.2.2.2.1 x.2.2.2.2.2.2.2.2.2⟩
theorem aaF:aaE.Ok E0 hp sp.ge:=TM fuel
def aaG:An:=qn<|qn<|qn<|un<|qn<|qn<|un<|.j false ⟨[B,(.list S),(.list I),I,(.list S),(.list dQ),(.list I),(.list I),B,I],[(21,.lf B)],H1,false⟩ .n
noncomputable def aaH:AU:=⟨[.po 3 0,.lf I],[.dead,.dead,.mg,.box [.lf I,.lf (.list S),.lf (.list dQ),.lf (.list I),.lf (.list I),.c (.mp 2),.c (.eD 179 [.aJ 3 1 0 0]),.c (.eD 180 [.aJ 3 1 0 0]),.c (.eD 181 [.aJ 3 1 0 0])]],[]⟩
def aaI:dA:=⟨[.lf I],H1,Y15⟩
def aaJ:dA:=⟨[],XY,[]⟩
noncomputable def aaK:eR GT:=⟨179,aaH,[I,(.list S),(.list I),I,(.list S),(.list dQ),(.list I),(.list I)],aaI,aaJ,fun x=>HI x.1 x.2.1 x.2.2.1 x.2.2.2.1 x.2.2.2.2.1 x.2.2.2.2.2.1 x.2.2.2.2.2.2.1 x.2.2.2.2.2.2.2⟩
theorem aaL:aaK.Ok E0 hp sp.ge:=iN aaG (fun x=>by kernel_rfl) (az Zt bh) bk (mV aaF ic) oX
def aaM:An:=qn<|qn<|qn<|.s [un<|.j false ⟨Y5,[(30,.lf B)],H6,false⟩ .n,qn<|un<|.j false ⟨Y2,[(4,.lf I)],H6,false⟩ .n]
noncomputable def aaN:AU:=⟨[.po 3 0,.lf I],[.dead,.dead,.mg,.box [.lf I,.lf (.list S),.lf (.list dQ),.lf (.list I),.lf (.list I),.c (.mp 2),.c (.eD 179 [.aJ 3 1 0 0]),.c (.eD 180 [.aJ 3 1 0 0]),.c (.eD 181 [.aJ 3 1 0 0])]],[]⟩
def aaO:dA:=⟨[.lf I],H6,Y2⟩
def aaP:dA:=⟨[],XY,[]⟩
noncomputable def aaQ:eR GT:=⟨184,aaN,[I,(.list S),(.list I),I,(.list S),(.list dQ),(.list I),(.list I)],aaO,aaP,fun x=>HJ x.1 x.2.1 x.2.2.1 x.2.2.2.1 x.2.2.2.2.1 x.2.2.2.2.2.1 x.2.2.2.2.2.2.1 x.2.2.2.2.2.2.2⟩
theorem aaR:aaQ.Ok E0 hp sp.ge:=iN aaM (fun x=>by kernel_rfl) (az U8 (az Va bh)) bk (mV TE (mV aav (mV aaB (mV aaL ic)))) oX
def adb:An:=qn<|un<|.j false ⟨[B],[(3,.lf B)],[],false⟩ .n
def ade:gS GT:=⟨185,[.lf I,.bR [.lf I,.lf (.list S),.lf (.list dQ),.lf (.list I),.lf (.list I)]],[I,I,(.list S),(.list dQ),(.list I),(.list I)],[B],fun x=>Vb x.1 x.2.1 x.2.2.1 x.2.2.2.1 x.2.2.2.2.1 x.2.2.2.2.2⟩
theorem adf:OK ade:=aH adb (fun x=>by kernel_rfl) (az U8 bh) bk
def N7:An:=qn<|un<|qn<|.l true 0 ⟨[I],Ux,[],false⟩ ⟨[],[],[],false⟩ .n
def N8:gS GT:=⟨223,[.lf (.list I),.fn 185 [.bR [.lf I,.lf (.list S),.lf (.list dQ),.lf (.list I),.lf (.list I)]]],[(.list I),I,(.list S),(.list dQ),(.list I),(.list I)],[I],fun x=>xh x.1 x.2.1 x.2.2.1 x.2.2.2.1 x.2.2.2.2.1 x.2.2.2.2.2⟩
theorem N9:OK N8:=aH N7 (fun x=>by kernel_rfl) (az adf bh) bk
def Oa:An:= .n
def Ob:gS GT:=⟨160,[.lf (.list I),.fn 185 [.bR [.lf I,.lf (.list S),.lf (.list dQ),.lf (.list I),.lf (.list I)]]],[(.list I),I,(.list S),(.list dQ),(.list I),(.list I)],[B],fun x=>rT x.1 x.2.1 x.2.2.1 x.2.2.2.1 x.2.2.2.2.1 x.2.2.2.2.2⟩
theorem Oc:OK Ob:=aH Oa (fun x=>by kernel_rfl) (az N9 bh) bk
def a64:An:=qn<|un<|.o [(1,qn<|.s [un<|.j false ⟨[B],[(18,.lf B)],Fv,false⟩ .n,.s [un<|.j false ⟨[B],[(28,.lf B)],Fv,false⟩ .n,qn<|qn<|.s [qn<|.l false 0 ⟨Y2,[(46,.lf I)],H6,false⟩ ⟨Y12,[],H6,false⟩ .n,.s [qn<|.l true 2 ⟨Y2,[(61,.lf I)],H6,false⟩ ⟨Y12,[],H6,false⟩ .n,.s [qn<|.l true 4 ⟨Y2,[(75,.lf I)],H6,false⟩ ⟨Y12,[],H6,false⟩ .n,.s [un<|.j false ⟨Y5,[(98,.lf B)],H6,false⟩ .n,un<|un<|un<|.o [(5,qn<|qn<|.s [qn<|.l false 0 ⟨[I,I,(.list S),(.list I),I,(.list S),(.list dQ),(.list I),(.list I),(.list (.list I))],[(3,.lf I),(11,.lf I)],H30,false⟩ ⟨[I,(.list S),(.list I),I,(.list S),(.list dQ),(.list I),(.list I),(.list (.list I))],[(3,.lf I)],H30,false⟩ .n,.s [.o [(1,qn<|qn<|un<|qn<|qn<|qn<|.z)],un<|qn<|.l false 2 ⟨[I,(.list S),(.list I),I,(.list S),(.list dQ),(.list I),(.list I),(.list (.list I)),(.list I)],[(6,.own 5),(27,.lf I)],H21,false⟩ ⟨[(.list S),(.list I),I,(.list S),(.list dQ),(.list I),(.list I),(.list (.list I)),(.list I)],[(6,.own 5)],H21,false⟩ .n]])]]]]]]])]
def c64:=cn 64 [Jw] [I] fun x=>m64 x
theorem k64:OK c64:=kI a64 (fun x=>by kernel_rfl) (az acS (az Oc bh)) bk (mV TE (mV aaR ic)) oX
def adg:An:= .n
def d136:dG GT:=⟨136,[.lf (.list I)],[(.list I)],I,fun x=>FI x⟩
theorem Zu:d136.Ok E0 hp sp.ge:=oo adg (fun x=>by kernel_rfl) bh bk
def a96:An:= .n
def d96:dG GT:=⟨96,[.lf (.list B)],[(.list B)],B,fun x=>Qo x⟩
theorem l96:d96.Ok E0 hp sp.ge:=oo a96 (fun x=>by kernel_rfl) bh bk
def Od:An:=qn<|un<|qn<|qn<|.l true 0 ⟨[I,B],[(9,.lf I)],[XZ,.lp .ready 0],false⟩ ⟨[B],[],[XZ,.lp .ready 0],false⟩ .n
def Oe:An:= .n
def adh:An:=qn<|qn<|un<|.j false ⟨[B],[(4,.lf B)],Fv,false⟩ .n
def Vc (n:Nat):gS GT:=⟨211,[.lf dM,.lf (.list B)],[dM,(.list B)],[B],fun x=>vM n x.1 x.2⟩
def Of (n:Nat):gS GT:=⟨287,[.fn 249 [.bR [.lf I,.lf I,.lf (.list dM)],.bR [.lf (.list B)]],.bR [.lf B]],[I,I,(.list dM),(.list B),B],[B],fun x=>lH (vM n) x.1 x.2.1 x.2.2.1 x.2.2.2.1 x.2.2.2.2⟩
theorem Dt (n:Nat) (h:(Vc n).Ok E0 hp sp.ge):(Of n).Ok E0 hp sp.ge:=kI Od (fun x=>by kernel_rfl) (az h bh) bk ic oX
def Og (n:Nat):gS GT:=⟨267,[.fn 249 [.bR [.lf I,.lf I,.lf (.list dM)],.bR [.lf (.list B)]]],[I,I,(.list dM),(.list B)],[B],fun x=>xj (vM n) x.1 x.2.1 x.2.2.1 x.2.2.2⟩
theorem Oi (n:Nat) (h:(Vc n).Ok E0 hp sp.ge):(Og n).Ok E0 hp sp.ge:=kI Oe (fun x=>by kernel_rfl) (az h (az (Dt n h) bh)) bk ic oX
theorem QS:∀ n,(Vc n).Ok E0 hp sp.ge
 | 0=>fun x r h=>nomatch h
 | n+1=>kI adh (fun x=>by kernel_rfl) (az (QS n) (az (Oi n (QS n)) (az (Dt n (QS n)) bh))) bk ic (HF (p:=(248,[],.agg [.int .i64 0,.int .i64 0,.jw,.int .i64 0,.int .i64 0,.jw,.int .i64 1,.int .i64 1,.fn 287 [.bR [.bool false]],.int .i64 2,.int .i64 256,.fn 287 [.bR [.bool true]],.int .i64 2,.int .i64 256,.fn 267 []])) Zs oX)
def adi:=cn 211 [dM,.list B] [B] fun x=>Vd x.1 x.2
theorem adj:OK adi:=QS fuel
def adk:An:= .n
def adl:=cn 137 [dM,.list B] [B,I] fun x=>JH x.1 x.2
theorem Zv:OK adl:=aH adk (fun x=>by kernel_rfl) (az Va (az adj bh)) bk
def a53:An:=qn<|qn<|un<|qn<|qn<|un<|qn<|.l true 0 ⟨[I,(.list B),I,(.arr 6 B)],[(9,.lf I)],H16,false⟩ ⟨[(.list B),I,(.arr 6 B)],[],H16,false⟩ .n
def c53:=cn 53 [uM,I] [.list B,I] fun x=>m53 x.1 x.2
theorem k53:OK c53:=aH a53 (fun x=>by kernel_rfl) (az k81 (az Zm bh)) bk
def adm:An:=qn<|un<|.j false ⟨[B],[(3,.lf B)],[],false⟩ .n
def adn:gS GT:=⟨159,[.lf I,.bR [.lf I]],[I,I],[B],fun x=>U5 x.1 x.2⟩
theorem ado:OK adn:=aH adm (fun x=>by kernel_rfl) bh bk
def Oj:An:=qn<|un<|qn<|.l true 0 ⟨[I],Ux,[],false⟩ ⟨[],[],[],false⟩ .n
def Ol:gS GT:=⟨223,[.lf (.list I),.fn 159 [.bR [.lf I]]],[(.list I),I],[I],fun x=>wX x.1 x.2⟩
theorem Om:OK Ol:=aH Oj (fun x=>by kernel_rfl) (az ado bh) bk
def Oo:An:= .n
def Oq:gS GT:=⟨160,[.lf (.list I),.fn 159 [.bR [.lf I]]],[(.list I),I],[B],fun x=>nO x.1 x.2⟩
theorem Ot:OK Oq:=aH Oo (fun x=>by kernel_rfl) (az Om bh) bk
theorem We:Pt E0 hp 158 [.int .i64 3] (.fn 159 [.bR [.int .i64 3]]):=U9 (by kernel_rfl) (by kernel_rfl)
theorem Wf:Pt E0 hp 158 [.int .i64 4] (.fn 159 [.bR [.int .i64 4]]):=U9 (by kernel_rfl) (by kernel_rfl)
def a94:An:=qn<|qn<|.s [un<|.j false ⟨[B],[(49,.lf B)],Fv,false⟩ .n,qn<|.s [un<|.j false ⟨[B],[(61,.lf B)],Fv,false⟩ .n,un<|qn<|.l true 0 ⟨[I],[(65,.lf I)],Fv,false⟩ ⟨[],[],Fv,false⟩ <|qn<|qn<|un<|qn<|qn<|un<|.j false ⟨[B],[(95,.lf B)],Fv,false⟩ .n]]
def c94:=cn 94 [Jw,KN] [I] fun x=>m94 x.1 x.2
theorem k94:OK c94:=kI a94 (fun x=>by kernel_rfl) (az Ot bh) bk ic (HF (p:=(158,[.int .i64 4],.fn 159 [.bR [.int .i64 4]])) Wf (HF (p:=(158,[.int .i64 3],.fn 159 [.bR [.int .i64 3]])) We oX))
def a52:An:= .n
def c52:=cn 52 [Jw,KN] [I] fun x=>Yr x.1 x.2
theorem k52:OK c52:=aH a52 (fun x=>by kernel_rfl) (az k64 (az k94 bh)) bk
end ck
