/- The code computes the models, printed by a program of mine (dec3.py). No condition. -/
import Derived.Test.YtafgdbaekppjcaaGreatDoorG33a
set_option linter.unusedSectionVars false
set_option linter.unusedVariables false
set_option linter.unusedSimpArgs false
namespace cQ
open Go hiding Obj mark
open Go.Pl Go.Am Go.Am.As nT
set_option linter.unusedVariables false
def a10:An:=(.s [.n,(.s [.n,(.s [(.s [.n,(.l true 0 ⟨[I],[(3,.lf I)],[.dead]⟩ ⟨[],[],[.dead]⟩ .n)])])])])
def c10:b7 GT:=⟨10,[.lf ij],[ij],[B],fun x=>WG x⟩
theorem k10:c10.Ok E0 hp sp.ge:=aD a10 (fun x=>by kernel_rfl) aV aW
def YK:An:=(.s [.n,(.s [(.j false ⟨[B],[(2,.lf B)],[]⟩ .n)])])
def YL:b7 GT:=⟨221,[.lf I],[I],[B],fun x=>P8 x⟩
theorem YM:YL.Ok E0 hp sp.ge:=aD YK (fun x=>by kernel_rfl) aV aW
def YN:An:=(.s [.n,(.s [(.j false ⟨[B],[(2,.lf B)],[]⟩ .n)])])
def YO:b7 GT:=⟨222,[.lf I],[I],[B],fun x=>P9 x⟩
theorem YP:YO.Ok E0 hp sp.ge:=aD YN (fun x=>by kernel_rfl) aV aW
def YQ:An:=(.s [.n,(.s [.n,(.s [.n,(.s [(.s [.n,(.l true 0 ⟨[I],[(3,.lf I)],[.dead]⟩ ⟨[],[],[.dead]⟩ (.s [.n,(.s [(.s [.n,(.s [(.s [(.j false ⟨[B],[(44,.lf B)],[.dead]⟩ .n)]),(.s [(.j false ⟨[B],[(62,.lf B)],[.dead]⟩ .n)])])])])]))])])])])])
def YR:b7 GT:=⟨154,[.lf lM],[lM],[I],fun x=>LN x⟩
theorem YS:YR.Ok E0 hp sp.ge:=aD YQ (fun x=>by kernel_rfl) (az YM (az YP aV)) aW
def YT:An:=(.s [.n,(.s [(.s [.n,(.l true 0 ⟨[I],[(5,.lf I)],[.dead]⟩ ⟨[],[],[.dead]⟩ (.s [.n,(.s [(.s [.n,(.s [(.j false ⟨[B],[(33,.lf B)],[.dead,.dead]⟩ .n)])])])]))])])])
def YU:b7 GT:=⟨155,[.lf lM,.lf (.list B)],[lM,(.list B)],[B],fun x=>LO x.1 x.2⟩
theorem YV:YU.Ok E0 hp sp.ge:=aD YT (fun x=>by kernel_rfl) aV aW
def YW:An:=(.s [.n,(.s [.n,(.s [(.s [.n,(.l false 0 ⟨[I,(.list B)],[(6,.lf I)],[.dead,.bg .norm B]⟩ ⟨[(.list B)],[],[.dead,.bg .norm B]⟩ .n)])])])])
def YX:b7 GT:=⟨156,[.lf lM,.lf (.list B)],[lM,(.list B)],[(.list B)],fun x=>LP x.1 x.2⟩
theorem YY:YX.Ok E0 hp sp.ge:=aD YW (fun x=>by kernel_rfl) aV aW
def a91:An:=(.s [.n,(.s [.n,(.s [(.s [.n,(.l true 0 ⟨[(.list B),I],[(3,.lf (.list B)),(4,.lf I)],[.dead]⟩ ⟨[(.list B)],[(3,.lf (.list B))],[.dead]⟩ (.s [.n,(.s [(.s [.n,(.s [.n,(.s [(.s [.n,(.l true 2 ⟨[I],[(7,.lf I)],[.dead,.dead]⟩ ⟨[],[],[.dead,.dead]⟩ .n)])])])])])]))]),(.s [(.s [.n,(.l true 4 ⟨[I],[(8,.lf I)],[.dead]⟩ ⟨[],[],[.dead]⟩ .n)])])])])])
def c91:b7 GT:=⟨91,[.lf ij],[ij],[I],fun x=>WH x⟩
theorem k91:c91.Ok E0 hp sp.ge:=aD a91 (fun x=>by kernel_rfl) (az YS (az YV (az YY aV))) aW
def YZ:An:=(.s [.n,(.s [(.s [.n,(.l true 0 ⟨[I],[(5,.lf I)],[.dead]⟩ ⟨[],[],[.dead]⟩ .n)])])])
def Y0:b7 GT:=⟨157,[.lf lM,.lf I],[lM,I],[I],fun x=>LQ x.1 x.2⟩
theorem Y1:Y0.Ok E0 hp sp.ge:=aD YZ (fun x=>by kernel_rfl) aV aW
def a92:An:=(.s [.n,(.s [(.s [.n,(.l true 0 ⟨[I],[(5,.lf I)],[.dead]⟩ ⟨[],[],[.dead]⟩ .n)])])])
def c92:b7 GT:=⟨92,[.lf ij,.lf I],[ij,I],[B],fun x=>WI x.1 x.2⟩
theorem k92:c92.Ok E0 hp sp.ge:=aD a92 (fun x=>by kernel_rfl) (az Y1 aV) aW
def a49:An:=(.s [.n,(.s [(.s [(.j false ⟨[B],[(12,.lf B)],[.dead]⟩ .n)]),(.s [.n,(.s [.n,(.s [.n,(.s [(.s [.n,(.l true 0 ⟨[I],[(4,.lf I)],[.dead]⟩ ⟨[],[],[.dead]⟩ .n)])])])])])])])
def c49:b7 GT:=⟨49,[.lf ij],[ij],[I],fun x=>S3 x⟩
theorem k49:c49.Ok E0 hp sp.ge:=aD a49 (fun x=>by kernel_rfl) (az k91 (az k92 aV)) aW
def a15:An:=(.s [.n,(.s [(.j false ⟨[B],[(2,.lf B)],[.dead]⟩ .n)])])
def c15:b7 GT:=⟨15,[.lf ij],[ij],[B],fun x=>WJ x⟩
theorem k15:c15.Ok E0 hp sp.ge:=aD a15 (fun x=>by kernel_rfl) (az k10 (az k49 aV)) aW
def a16:An:=(.s [.n,(.s [(.j false ⟨[B],[(2,.lf B)],[.dead]⟩ .n)])])
def c16:b7 GT:=⟨16,[.lf r9],[r9],[B],fun x=>WK x⟩
theorem k16:c16.Ok E0 hp sp.ge:=aD a16 (fun x=>by kernel_rfl) aV aW
def Y2:An:=(.s [.n,(.s [(.j false ⟨[B],[(2,.lf B)],[]⟩ .n)])])
def Y3:b7 GT:=⟨250,[.lf I],[I],[B],fun x=>Qa x⟩
theorem Y4:Y3.Ok E0 hp sp.ge:=aD Y2 (fun x=>by kernel_rfl) aV aW
def Y5:An:=(.s [.n,(.s [.n,(.s [.n,(.s [(.s [.n,(.l true 1 ⟨[I,I],[(4,.lf I),(19,.lf I)],[.dead]⟩ ⟨[],[],[.dead]⟩ .n)]),(.s [(.s [(.j false ⟨[B],[(48,.lf B)],[.dead]⟩ .n)])])])])])])
def Y6:b7 GT:=⟨212,[.lf lM],[lM],[I],fun x=>LR x⟩
theorem Y7:Y6.Ok E0 hp sp.ge:=aD Y5 (fun x=>by kernel_rfl) (az Y4 aV) aW
def Y8:An:=(.s [.n,(.s [.n,(.s [(.s [.n,(.l true 0 ⟨[I,(.arr 6 B)],[(20,.lf I)],[.dead,.dead,.arr 6 B]⟩ ⟨[(.arr 6 B)],[],[.dead,.dead,.arr 6 B]⟩ .n)]),(.s [(.s [.n,(.l true 2 ⟨[I,(.arr 6 B)],[(33,.lf I)],[.dead,.dead,.arr 6 B]⟩ ⟨[(.arr 6 B)],[],[.dead,.dead,.arr 6 B]⟩ .n)])])])])])
def Y9:b7 GT:=⟨139,[.lf ij,.lf lM,.lf (.arr 6 B)],[ij,lM,(.arr 6 B)],[I],fun x=>LS x.1 x.2.1 x.2.2⟩
theorem Za:Y9.Ok E0 hp sp.ge:=aD Y8 (fun x=>by kernel_rfl) (az Y7 aV) aW
def Zb:An:=(.s [.n,(.s [(.s [.n,(.l false 0 ⟨[I,(.arr 6 B),(.arr 6 B)],[(10,.lf I)],[.arr 6 B,.dead,.arr 6 B]⟩ ⟨[(.arr 6 B),(.arr 6 B)],[],[.arr 6 B,.dead,.arr 6 B]⟩ .n)])])])
def Zc:b7 GT:=⟨140,[.lf (.arr 6 B),.lf lM],[(.arr 6 B),lM],[(.arr 6 B)],fun x=>LU x.1 x.2⟩
theorem Zd:Zc.Ok E0 hp sp.ge:=aD Zb (fun x=>by kernel_rfl) aV aW
def Ze:An:=(.s [.n,(.s [(.s [.n,(.l true 0 ⟨[I],[(8,.lf I)],[]⟩ ⟨[],[],[]⟩ .n)])])])
def Zf:b7 GT:=⟨213,[.lf (.list B),.lf B],[(.list B),B],[I],fun x=>Qb x.1 x.2⟩
theorem Zg:Zf.Ok E0 hp sp.ge:=aD Ze (fun x=>by kernel_rfl) aV aW
def Zh:An:= .n
def Zi:b7 GT:=⟨141,[.lf (.list B),.lf B],[(.list B),B],[B],fun x=>LV x.1 x.2⟩
theorem Zj:Zi.Ok E0 hp sp.ge:=aD Zh (fun x=>by kernel_rfl) (az Zg aV) aW
def a81:An:=(.s [.n,(.s [(.s [(.j false ⟨[B],[(10,.lf B)],[.dead]⟩ .n)]),(.s [.n,(.s [(.s [.n,(.l true 1 ⟨[I,(.arr 6 B),(.arr 6 B)],[(32,.lf I)],[.dead,.arr 6 B,.arr 6 B]⟩ ⟨[(.arr 6 B),(.arr 6 B)],[],[.dead,.arr 6 B,.arr 6 B]⟩ (.s [.n,(.s [.n,(.s [(.s [.n,(.s [.n,(.s [.n,(.s [.n,(.l false 3 ⟨[I,(.arr 6 B),(.arr 6 B)],[(49,.lf I)],[.dead,.arr 6 B,.arr 6 B,.dead]⟩ ⟨[(.arr 6 B),(.arr 6 B)],[],[.dead,.arr 6 B,.arr 6 B,.dead]⟩ .n)])])])])])])]))])])])])])
def c81:b7 GT:=⟨81,[.lf ij],[ij],[I],fun x=>WL x⟩
theorem k81:c81.Ok E0 hp sp.ge:=aD a81 (fun x=>by kernel_rfl) (az Za (az Zd (az Zj aV))) aW
def a82:An:=(.s [.n,(.s [.n,(.s [.n,(.s [(.s [.n,(.l false 0 ⟨[I,I,I,(.list lM),I,(.list I),(.list I)],[(4,.lf I),(25,.lf I)],[.dead,.box [.lf I,.lf (.list lM),.lf I,.own 2,.own 3],.bg .nil I,.bg .nil I]⟩ ⟨[I,(.list lM),I,(.list I),(.list I)],[],[.dead,.box [.lf I,.lf (.list lM),.lf I,.lf (.list I),.own 3],.dead,.bg .nil I]⟩ (.s [.n,(.s [.n,(.s [(.s [.n,(.s [.n,(.s [.n,(.s [.n,(.j false ⟨[I,I,(.list lM),I,(.list I),(.list I)],[(4,.lf I)],[.dead,.box [.lf I,.lf (.list lM),.lf I,.own 2,.own 3],.bg .nil I,.bg .nil I,.dead]⟩ .n)])])])])])])]))]),(.s [(.s [.n,(.j false ⟨[I,(.list lM),I,(.list I),(.list I)],[],[.dead,.box [.lf I,.lf (.list lM),.lf I,.lf (.list I),.own 3],.dead,.bg .nil I]⟩ .n)])])])])])])
def c82:b7 GT:=⟨82,[.lf ij],[ij],[(.ptr lS)],fun x=>To x⟩
theorem k82:c82.Ok E0 hp sp.ge:=aD a82 (fun x=>by kernel_rfl) aV aW
def Zk:An:= .n
def Zl:b7 GT:=⟨217,[.lf I],[I],[b6],fun x=>sN x⟩
theorem CQ:Zl.Ok E0 hp sp.ge:=aD Zk (fun x=>by kernel_rfl) aV aW
def T8:An:=(.s [.n,(.s [.n,(.s [(.o [(2,(.s [.n,(.s [.n,(.s [(.s [.n,(.l false 0 ⟨[I,(.list b6)],[(5,.own 0),(19,.lf I)],[.bg .nil b6]⟩ ⟨[(.list b6)],[(5,.own 0)],[.bg .nil b6]⟩ (.s [.n,(.s [.n,(.s [(.s [.n,(.s [.n,(.s [(.s [.n,(.j false ⟨[I,(.list b6)],[(8,.lf I)],[.bg .nil b6,.dead]⟩ .n)])])])])])])]))])])])]))])])])])
def Zm:b7 GT:=⟨215,[.lf (.ptr lS),.lf I],[(.ptr lS),I],[(.list b6)],fun x=>CS x.1 x.2⟩
theorem Zn:Zm.Ok E0 hp sp.ge:=aD T8 (fun x=>by kernel_rfl) (az CQ aV) aW
def d215:dz GT:=⟨215,[.lf (.ptr lS),.lf I],[(.ptr lS),I],b6,fun x=>CS x.1 x.2⟩
theorem Zo:d215.Ok E0 hp sp.ge:=zn T8 (fun x=>by kernel_rfl) (az CQ aV) aW
def Zp:An:= .n
def Zq:b7 GT:=⟨214,[.lf I,.lf (.list b6)],[I,(.list b6)],[b6],fun x=>yN x.1 x.2⟩
theorem LW:Zq.Ok E0 hp sp.ge:=aD Zp (fun x=>by kernel_rfl) aV aW
def Zr:An:= .n
def Zs:b7 GT:=⟨216,[.lf (.ptr lS)],[(.ptr lS)],[b6],fun x=>LX x⟩
theorem Zt:Zs.Ok E0 hp sp.ge:=aD Zr (fun x=>by kernel_rfl) (az CQ aV) aW
def Zu:An:= .n
def Zv:b7 GT:=⟨268,[.lf I],[I],[S],fun x=>T9 x⟩
theorem Zw:Zv.Ok E0 hp sp.ge:=aD Zu (fun x=>by kernel_rfl) aV aW
def Zx:An:=(.s [.n,(.s [(.s [.n,(.s [(.s [(.s [(.j false ⟨[B],[(17,.lf B)],[]⟩ .n)]),(.s [.n,(.s [.n,(.s [(.s [.n,(.j false ⟨[(.int .u64),(.arr 24 (.int .u8))],[(6,.lf (.int .u64))],[.arr 24 (.int .u8)]⟩ .n)])])])])])])])])])
def Zy:b7 GT:=⟨254,[.lf I,.lf I],[I,I],[S],fun x=>Ua x.1 x.2⟩
theorem Zz:Zy.Ok E0 hp sp.ge:=aD Zx (fun x=>by kernel_rfl) (az Zw aV) aW
def ZA:An:= .n
def ZB:b7 GT:=⟨225,[.lf I],[I],[S],fun x=>Ub x⟩
theorem ZC:ZB.Ok E0 hp sp.ge:=aD ZA (fun x=>by kernel_rfl) (az Zz aV) aW
def ZD:An:= .n
def ZE:b7 GT:=⟨172,[.lf I],[I],[S],fun x=>G4 x⟩
theorem Uc:ZE.Ok E0 hp sp.ge:=aD ZD (fun x=>by kernel_rfl) (az ZC aV) aW
def ZF:An:=(.s [.n,(.s [.n,(.s [.n,(.s [.n,(.s [(.s [.n,(.s [.n,(.l false 0 ⟨[I,(.list bT)],[(5,.lf I)],[.dead,.dead,.box [.own 3],.bg .nil bT,.dead,.lp .ready 0]⟩ ⟨[(.list bT)],[],[.dead,.dead,.box [.own 3],.bg .nil bT,.dead,.lp .ready 0]⟩ (.s [.n,(.s [.n,(.s [(.s [.n,(.s [(.o [(13,(.s [.n,(.s [.n,(.s [(.s [.n,(.j false ⟨[(.list bT),I,I,(.list b6)],[(7,.own 7)],[.dead,.dead,.box [.own 3],.bg .nil bT,.dead,.lp .busy 0,.box [.lf I,.lf I],.bg .norm b6]⟩ .n)])])])]))])])])])])]))])])])])])])])
def d142:dz GT:=⟨142,[.lf (.ptr lS)],[(.ptr lS)],bT,fun x=>LY x⟩
theorem ZG:d142.Ok E0 hp sp.ge:=zn ZF (fun x=>by kernel_rfl) (az Zn (az LW (az Zt (az CQ (az Uc aV))))) (HH Zo aW)
def ZH:An:=(.s [.n,(.s [.n,(.s [(.s [.n,(.l false 0 ⟨[I,(.list bT)],[(3,.own 0),(13,.lf I)],[.bg .nil bT]⟩ ⟨[(.list bT)],[(3,.own 0)],[.bg .nil bT]⟩ (.s [.n,(.s [.n,(.s [(.s [.n,(.s [.n,(.j false ⟨[(.list bT)],[(3,.own 0)],[.bg .nil bT,.dead]⟩ (.s [(.s [(.o [(11,(.s [.n,(.s [.n,(.s [(.s [.n,(.l false 0 ⟨[I,(.list bT),(.list b6),(.list b6)],[(5,.own 3),(19,.lf I)],[.bg .nil bT,.dead,.bg .norm b6,.bg .nil b6]⟩ ⟨[(.list bT),(.list b6),(.list b6)],[(5,.own 3)],[.bg .nil bT,.dead,.bg .norm b6,.bg .nil b6]⟩ (.s [.n,(.s [.n,(.s [(.s [.n,(.s [.n,(.s [(.s [.n,(.j false ⟨[I,(.list bT),(.list b6),(.list b6)],[(8,.lf I)],[.bg .nil bT,.dead,.bg .norm b6,.bg .nil b6,.dead]⟩ .n)])])])])])])]))])])])]))])])]))])])])])]))])])])])
def ZI:b7 GT:=⟨143,[.lf (.ptr lS)],[(.ptr lS)],[(.list bT)],fun x=>LZ x⟩
theorem ZJ:ZI.Ok E0 hp sp.ge:=aD ZH (fun x=>by kernel_rfl) (az CQ (az Uc (az LW aV))) aW
def ZK:An:= .n
def ZL:b7 GT:=⟨145,[.lf FE,.bV [.lf I]],[FE,I],[B],fun x=>L0 x.1 x.2⟩
theorem ZM:ZL.Ok E0 hp sp.ge:=aD ZK (fun x=>by kernel_rfl) aV aW
def Jt:An:=(.s [.n,(.s [(.s [.n,(.l true 0 ⟨[I],[(8,.lf I)],[]⟩ ⟨[],[],[]⟩ .n)])])])
def Ju:b7 GT:=⟨252,[.lf (.list FE),.fn 145 [.bV [.lf I]]],[(.list FE),I],[I],fun x=>uN x.1 x.2⟩
theorem Jv:Ju.Ok E0 hp sp.ge:=aD Jt (fun x=>by kernel_rfl) (az ZM aV) aW
def Jw:An:= .n
def Jx:b7 GT:=⟨220,[.lf (.list FE),.fn 145 [.bV [.lf I]]],[(.list FE),I],[B],fun x=>p9 x.1 x.2⟩
theorem Jy:Jx.Ok E0 hp sp.ge:=aD Jw (fun x=>by kernel_rfl) (az Jv aV) aW
def Jz:An:=(.s [.n,(.s [.n,(.s [(.s [.n,(.l false 0 ⟨[I,S,I,I,I,(.list b6),I,I,(.list b6),I,B,(.list b6)],[(7,.own 1),(16,.lf I)],[.box [.lf S,.lf I,.lf I,.lf I,.lf (.list b6),.lf I,.lf I,.lf (.list b6),.lf I,.lf B],.bg .nil b6]⟩ ⟨[S,I,I,I,(.list b6),I,I,(.list b6),I,B,(.list b6)],[(7,.own 1)],[.box [.lf S,.lf I,.lf I,.lf I,.lf (.list b6),.lf I,.lf I,.lf (.list b6),.lf I,.lf B],.bg .nil b6]⟩ (.s [.n,(.s [.n,(.s [(.s [.n,(.s [.n,(.j false ⟨[S,I,I,I,(.list b6),I,I,(.list b6),I,B,(.list b6)],[(7,.own 1)],[.box [.lf S,.lf I,.lf I,.lf I,.lf (.list b6),.lf I,.lf I,.lf (.list b6),.lf I,.lf B],.bg .nil b6,.dead]⟩ .n)])])])])]))])])])])
def JA:b7 GT:=⟨144,[.lf (.ptr lS),.lf S,.fn 145 [.bV [.lf I]]],[(.ptr lS),S,I],[bT],fun x=>qb x.1 x.2.1 x.2.2⟩
theorem JB:JA.Ok E0 hp sp.ge:=aD Jz (fun x=>by kernel_rfl) (az Jy (az CQ (az LW aV))) aW
def ZN:An:= .n
def ZO:b7 GT:=⟨146,[.lf FE,.bV [.lf I]],[FE,I],[B],fun x=>L3 x.1 x.2⟩
theorem ZP:ZO.Ok E0 hp sp.ge:=aD ZN (fun x=>by kernel_rfl) aV aW
def JC:An:=(.s [.n,(.s [(.s [.n,(.l true 0 ⟨[I],[(8,.lf I)],[]⟩ ⟨[],[],[]⟩ .n)])])])
def JD:b7 GT:=⟨252,[.lf (.list FE),.fn 146 [.bV [.lf I]]],[(.list FE),I],[I],fun x=>uO x.1 x.2⟩
theorem JE:JD.Ok E0 hp sp.ge:=aD JC (fun x=>by kernel_rfl) (az ZP aV) aW
def JF:An:= .n
def JG:b7 GT:=⟨220,[.lf (.list FE),.fn 146 [.bV [.lf I]]],[(.list FE),I],[B],fun x=>qc x.1 x.2⟩
theorem JH:JG.Ok E0 hp sp.ge:=aD JF (fun x=>by kernel_rfl) (az JE aV) aW
def JI:An:=(.s [.n,(.s [.n,(.s [(.s [.n,(.l false 0 ⟨[I,S,I,I,I,(.list b6),I,I,(.list b6),I,B,(.list b6)],[(7,.own 1),(16,.lf I)],[.box [.lf S,.lf I,.lf I,.lf I,.lf (.list b6),.lf I,.lf I,.lf (.list b6),.lf I,.lf B],.bg .nil b6]⟩ ⟨[S,I,I,I,(.list b6),I,I,(.list b6),I,B,(.list b6)],[(7,.own 1)],[.box [.lf S,.lf I,.lf I,.lf I,.lf (.list b6),.lf I,.lf I,.lf (.list b6),.lf I,.lf B],.bg .nil b6]⟩ (.s [.n,(.s [.n,(.s [(.s [.n,(.s [.n,(.j false ⟨[S,I,I,I,(.list b6),I,I,(.list b6),I,B,(.list b6)],[(7,.own 1)],[.box [.lf S,.lf I,.lf I,.lf I,.lf (.list b6),.lf I,.lf I,.lf (.list b6),.lf I,.lf B],.bg .nil b6,.dead]⟩ .n)])])])])]))])])])])
def JJ:b7 GT:=⟨144,[.lf (.ptr lS),.lf S,.fn 146 [.bV [.lf I]]],[(.ptr lS),S,I],[bT],fun x=>qd x.1 x.2.1 x.2.2⟩
theorem JK:JJ.Ok E0 hp sp.ge:=aD JI (fun x=>by kernel_rfl) (az JH (az CQ (az LW aV))) aW
def a83:An:=(.s [.n,(.s [.n,(.s [(.s [.n,(.l false 0 ⟨[I,I,(.list S),(.list bT),(.list I),(.list I),(.list S),(.list bT),I,(.list I),(.list I)],[(24,.lf I)],[.box [.lf I,.lf (.list S),.lf (.list bT),.lf (.list I),.lf (.list I)],.bg .norm S,.bg .norm bT,.gB,.box [.lf I,.own 1,.own 2,.own 5,.own 6],.bg .nil I,.bg .nil I]⟩ ⟨[I,(.list S),(.list bT),(.list I),(.list I),(.list S),(.list bT),I,(.list I),(.list I)],[],[.box [.lf I,.lf (.list S),.lf (.list bT),.lf (.list I),.lf (.list I)],.bg .norm S,.bg .norm bT,.gB,.box [.lf I,.own 1,.own 2,.own 5,.own 6],.bg .nil I,.bg .nil I]⟩ .n)])])])])
def c83:b7 GT:=⟨83,[.lf (.ptr lS)],[(.ptr lS)],[lN],fun x=>WM x⟩
theorem k83:c83.Ok E0 hp sp.ge:=aD a83 (fun x=>by kernel_rfl) (az ZJ (az JB (az JK aV))) (HH ZG aW)
def a43:An:= .n
def c43:b7 GT:=⟨43,[.lf ij],[ij],[(.dB lS),lN,I],fun x=>WN x⟩
theorem k43:c43.Ok E0 hp sp.ge:=aD a43 (fun x=>by kernel_rfl) (az k81 (az k82 (az k83 aV))) aW
def ZQ:An:= .n
def ZR:b7 GT:=⟨138,[.lf lN],[lN],[I],fun x=>tP x⟩
theorem Qc:ZR.Ok E0 hp sp.ge:=aD ZQ (fun x=>by kernel_rfl) aV aW
def ZS:An:= .n
def ZT:b7 GT:=⟨182,[.lf lN,.lf I],[lN,I],[S],fun x=>LL x.1 x.2⟩
theorem ZU:ZT.Ok E0 hp sp.ge:=aD ZS (fun x=>by kernel_rfl) (az Qc aV) aW
def ZV:An:=(.s [.n,(.s [(.j false ⟨[B],[(2,.lf B)],[]⟩ .n)])])
def ZW:b7 GT:=⟨232,[.lf (.int .u8)],[(.int .u8)],[B],fun x=>L4 x⟩
theorem ZX:ZW.Ok E0 hp sp.ge:=aD ZV (fun x=>by kernel_rfl) aV aW
def ZY:An:=(.s [.n,(.s [(.j false ⟨[B],[(2,.lf B)],[]⟩ .n)])])
def ZZ:b7 GT:=⟨231,[.lf (.int .i32)],[(.int .i32)],[B],fun x=>L5 x⟩
theorem Z0:ZZ.Ok E0 hp sp.ge:=aD ZY (fun x=>by kernel_rfl) (az ZX aV) aW
def JL:An:=(.s [.n,(.s [(.s [.n,(.l true 0 ⟨[S,I],[],[.wC]⟩ ⟨[],[],[]⟩ .n)])])])
def JM:b7 GT:=⟨272,[.lf S,.fn 231 [],.lf B],[S,B],[I],fun x=>uP x.1 x.2⟩
theorem JN:JM.Ok E0 hp sp.ge:=aD JL (fun x=>by kernel_rfl) (az Z0 aV) aW
def JO:An:= .n
def JP:b7 GT:=⟨256,[.lf S,.fn 231 []],[S],[I],fun x=>uQ x⟩
theorem JQ:JP.Ok E0 hp sp.ge:=aD JO (fun x=>by kernel_rfl) (az JN aV) aW
def JR:An:= .n
def JS:b7 GT:=⟨230,[.lf S,.fn 231 []],[S],[B],fun x=>mJ x⟩
theorem JT:JS.Ok E0 hp sp.ge:=aD JR (fun x=>by kernel_rfl) (az JQ aV) aW
def UZ:An:=(.s [.n,(.s [(.s [(.j false ⟨[B,(.list S),(.list I),I,(.list S),(.list bT),(.list I),(.list I)],[(22,.lf B)],[.dead,.dead,.fQ,.box [.lf I,.lf (.list S),.lf (.list bT),.lf (.list I),.lf (.list I),.c (.mp 2),.c (.bL 179 [.ax 3 1 0 0]),.c (.bL 180 [.ax 3 1 0 0]),.c (.bL 181 [.ax 3 1 0 0])]]⟩ .n)]),(.s [.n,(.s [(.s [(.o [(5,(.j true ⟨[I,B,(.list S),(.list I),I,(.list S),(.list bT),(.list I),(.list I)],[(32,.bk [.lf I,.lf B])],[.dead,.dead,.fQ,.box [.lf I,.lf (.list S),.lf (.list bT),.lf (.list I),.lf (.list I),.c (.mp 2),.c (.bL 179 [.ax 3 1 0 0]),.c (.bL 180 [.ax 3 1 0 0]),.c (.bL 181 [.ax 3 1 0 0])]]⟩ .n))])])])])])])
noncomputable def U0:yC:=⟨[.po 3 0,.lf S],[.dead,.dead,.fQ,.box [.lf I,.lf (.list S),.lf (.list bT),.lf (.list I),.lf (.list I),.c (.mp 2),.c (.bL 179 [.ax 3 1 0 0]),.c (.bL 180 [.ax 3 1 0 0]),.c (.bL 181 [.ax 3 1 0 0])]],[]⟩
def U1:dj:=⟨[.lf I],[.dead,.dead,.fQ,.box [.lf I,.lf (.list S),.lf (.list bT),.lf (.list I),.lf (.list I),.c (.mp 2),.c (.bL 179 [.ax 3 1 0 0]),.c (.bL 180 [.ax 3 1 0 0]),.c (.bL 181 [.ax 3 1 0 0])]],[I,(.list S),(.list I),I,(.list S),(.list bT),(.list I),(.list I)]⟩
def U2:dj:=⟨[],[.lp .busy 999],[]⟩
noncomputable def U3:eE GT:=⟨183,U0,[S,(.list S),(.list I),I,(.list S),(.list bT),(.list I),(.list I)],U1,U2,fun x=>xe x.1 x.2.1 x.2.2.1 x.2.2.2.1 x.2.2.2.2.1 x.2.2.2.2.2.1 x.2.2.2.2.2.2.1 x.2.2.2.2.2.2.2⟩
theorem OL:U3.Ok E0 hp sp.ge:=gZ UZ (fun x=>by kernel_rfl) (az JT aV) aW iw qN
def Z1:An:= .n
def Z2:b7 GT:=⟨131,[.lf lN],[lN],[I],fun x=>CT x⟩
theorem Qd:Z2.Ok E0 hp sp.ge:=aD Z1 (fun x=>by kernel_rfl) (az Qc aV) aW
def U4:An:=(.s [.n,(.s [(.s [(.o [(3,(.s [.n,(.s [.n,(.s [.n,(.s [(.j false ⟨[B,I,I,B,I,I],[(22,.lf B)],[.dead,.box [.lf I],.box [.lf I],.box [.lf B],.box [.lf I],.box [.lf I],.dead,.lp .busy 0,.box [.c (.eI 7)],.box [.fn 265 [.po 8 0,.po 9 0]]]⟩ .n)])])])]))])]),(.s [(.s [.n,(.l true 0 ⟨[I,I,I,B,I,I],[(17,.lf I)],[.dead,.box [.lf I],.box [.lf I],.box [.lf B],.box [.lf I],.box [.lf I],.dead,.lp .ready 0,.box [.c (.eI 7)],.box [.fn 265 [.po 8 0,.po 9 0]]]⟩ ⟨[I,I,B,I,I],[],[.dead,.box [.lf I],.box [.lf I],.box [.lf B],.box [.lf I],.box [.lf I],.dead,.lp .ready 0,.box [.c (.eI 7)],.box [.fn 265 [.po 8 0,.po 9 0]]]⟩ .n)])])])])
noncomputable def OM:yC:=⟨[.lf b6,.lf I,.po 8 0,.po 9 0],[.dead,.box [.lf I],.box [.lf I],.box [.lf B],.box [.lf I],.box [.lf I],.dead,.lp .ready 0,.box [.c (.eI 7)],.box [.fn 265 [.po 8 0,.po 9 0]]],[(25,[(2,.po 1 0),(3,.po 2 0),(4,.po 3 0),(5,.po 4 0),(6,.po 5 0),(9,.fn 264 [.bV [.lf I,.lf I,.lf (.list b6)]])],c3 245 0)]⟩
def ON:dj:=⟨[.cb false],[.dead,.box [.lf I],.box [.lf I],.box [.lf B],.box [.lf I],.box [.lf I],.dead,.lp (.done .ret) 0,.box [.c (.eI 7)],.box [.fn 265 [.po 8 0,.po 9 0]]],[I,I,B,I,I]⟩
def OO:dj:=⟨[.cb true],[.dead,.box [.lf I],.box [.lf I],.box [.lf B],.box [.lf I],.box [.lf I],.dead,.lp .ready 0,.box [.c (.eI 7)],.box [.fn 265 [.po 8 0,.po 9 0]]],[I,I,B,I,I]⟩
noncomputable def U5 (n:Nat):eE GT:=⟨265,OM,[b6,I,I,I,B,I,I,I,I,(.list b6)],ON,OO,fun x=>xg n x.1 x.2.1 x.2.2.1 x.2.2.2.1 x.2.2.2.2.1 x.2.2.2.2.2.1 x.2.2.2.2.2.2.1 x.2.2.2.2.2.2.2.1 x.2.2.2.2.2.2.2.2.1 x.2.2.2.2.2.2.2.2.2⟩
theorem OP:∀ n,(U5 n).Ok E0 hp sp.ge
 | 0=>fun x r h=>nomatch h
 | n+1=>gZ U4 (fun x=>by kernel_rfl) aV aW (lH (OP n) iw) qN
noncomputable def U6:eE GT:=⟨265,OM,[b6,I,I,I,B,I,I,I,I,(.list b6)],ON,OO,fun x=>HI x.1 x.2.1 x.2.2.1 x.2.2.2.1 x.2.2.2.2.1 x.2.2.2.2.2.1 x.2.2.2.2.2.2.1 x.2.2.2.2.2.2.2.1 x.2.2.2.2.2.2.2.2.1 x.2.2.2.2.2.2.2.2.2⟩
theorem U7:U6.Ok E0 hp sp.ge:=OP fuel
def Z3:An:= .n
def Z4:b7 GT:=⟨245,[.lf b6],[b6],[I,I,B],fun x=>L6 x⟩
theorem Z5:Z4.Ok E0 hp sp.ge:=pP Z3 (fun x=>by kernel_rfl) aV aW (lH U7 iw) qN
theorem Z6:Pt E0 hp 248 [] (.agg [.int .i64 0,.int .i64 0,.jX,.int .i64 0,.int .i64 0,.jX,.int .i64 1,.int .i64 1,.fn 287 [.bV [.bool false]],.int .i64 2,.int .i64 256,.fn 287 [.bV [.bool true]],.int .i64 2,.int .i64 256,.fn 267 []]):=Qe (by kernel_rfl) (by kernel_rfl)
def Z7:An:=(.s [.n,(.s [(.s [(.j false ⟨[B],[(14,.lf B)],[.dead]⟩ .n)]),(.s [.n,(.s [(.s [(.j false ⟨[B],[(32,.lf B)],[.dead,.dead]⟩ .n)]),(.s [.n,(.s [(.s [.n,(.s [.n,(.j false ⟨[I],[(6,.lf I)],[.dead,.dead]⟩ (.s [.n,(.s [.n,(.j false ⟨[I],[(6,.lf I)],[.dead,.dead]⟩ .n)])]))])]),(.s [(.s [(.j false ⟨[B],[(49,.lf B)],[.dead,.dead]⟩ .n)])])])])])])])])
def Z8:b7 GT:=⟨247,[.lf b6,.lf I],[b6,I],[I],fun x=>G5 x.1 x.2⟩
theorem Z9:Z8.Ok E0 hp sp.ge:=pP Z7 (fun x=>by kernel_rfl) aV aW iw (HJ (p:=(248,[],.agg [.int .i64 0,.int .i64 0,.jX,.int .i64 0,.int .i64 0,.jX,.int .i64 1,.int .i64 1,.fn 287 [.bV [.bool false]],.int .i64 2,.int .i64 256,.fn 287 [.bV [.bool true]],.int .i64 2,.int .i64 256,.fn 267 []])) Z6 qN)
def Re:An:=(.s [.n,(.s [.n,(.s [(.s [.n,(.l true 0 ⟨[I,I],[(17,.lf I)],[.dead,.dead,.box [.lf I],.dead,.lp .ready 0,.box [.c (.eI 4)],.box [.fn 265 [.po 5 0,.po 6 0]]]⟩ ⟨[I],[],[.dead,.dead,.box [.lf I],.dead,.lp .ready 0,.box [.c (.eI 4)],.box [.fn 265 [.po 5 0,.po 6 0]]]⟩ .n)])])])])
noncomputable def IC:yC:=⟨[.lf b6,.lf I,.po 5 0,.po 6 0],[.dead,.dead,.box [.lf I],.dead,.lp .ready 0,.box [.c (.eI 4)],.box [.fn 265 [.po 5 0,.po 6 0]]],[(35,[(3,.bV [.lf I]),(4,.po 2 0),(26,.fn 264 [.bV [.lf I,.lf I,.lf (.list b6)]])],c3 210 0)]⟩
def ID:dj:=⟨[.cb false],[.dead,.dead,.box [.lf I],.dead,.lp (.done .ret) 0,.box [.c (.eI 4)],.box [.fn 265 [.po 5 0,.po 6 0]]],[I]⟩
def IE:dj:=⟨[.cb true],[.dead,.dead,.box [.lf I],.dead,.lp .ready 0,.box [.c (.eI 4)],.box [.fn 265 [.po 5 0,.po 6 0]]],[I]⟩
noncomputable def Rf (n:Nat):eE GT:=⟨265,IC,[b6,I,I,I,I,I,(.list b6)],ID,IE,fun x=>ov n x.1 x.2.1 x.2.2.1 x.2.2.2.1 x.2.2.2.2.1 x.2.2.2.2.2.1 x.2.2.2.2.2.2⟩
theorem IF:∀ n,(Rf n).Ok E0 hp sp.ge
 | 0=>fun x r h=>nomatch h
 | n+1=>gZ Re (fun x=>by kernel_rfl) (az Z9 aV) aW (lH (IF n) iw) qN
noncomputable def Rg:eE GT:=⟨265,IC,[b6,I,I,I,I,I,(.list b6)],ID,IE,fun x=>C9 x.1 x.2.1 x.2.2.1 x.2.2.2.1 x.2.2.2.2.1 x.2.2.2.2.2.1 x.2.2.2.2.2.2⟩
theorem Rh:Rg.Ok E0 hp sp.ge:=IF fuel
def aaa:An:=(.s [.n,(.s [(.s [(.j false ⟨[B,I],[(16,.lf B)],[.dead,.dead,.box [.lf I]]⟩ .n)])])])
def aab:b7 GT:=⟨210,[.lf b6,.lf I],[b6,I],[I],fun x=>G6 x.1 x.2⟩
theorem Ud:aab.Ok E0 hp sp.ge:=pP aaa (fun x=>by kernel_rfl) (az Z5 aV) aW (lH Rh iw) qN
def aac:An:=(.s [.n,(.s [(.j false ⟨[B],[(2,.lf B)],[.dead]⟩ .n)])])
def aad:b7 GT:=⟨229,[.lf b6],[b6],[B],fun x=>G7 x⟩
theorem Ue:aad.Ok E0 hp sp.ge:=aD aac (fun x=>by kernel_rfl) aV aW
def U8:An:=(.s [.n,(.s [(.s [.n,(.s [(.j false ⟨[B,(.list S),(.list I),I,(.list S),(.list bT),(.list I),(.list I)],[(14,.lf B)],[.dead,.dead,.fQ,.box [.lf I,.lf (.list S),.lf (.list bT),.lf (.list I),.lf (.list I),.c (.mp 2),.c (.bL 179 [.ax 3 1 0 0]),.c (.bL 180 [.ax 3 1 0 0]),.c (.bL 181 [.ax 3 1 0 0])],.dead]⟩ .n),(.s [.n,(.s [(.j false ⟨[B,(.list S),(.list I),I,(.list S),(.list bT),(.list I),(.list I)],[(23,.lf B)],[.dead,.dead,.fQ,.box [.lf I,.lf (.list S),.lf (.list bT),.lf (.list I),.lf (.list I),.c (.mp 2),.c (.bL 179 [.ax 3 1 0 0]),.c (.bL 180 [.ax 3 1 0 0]),.c (.bL 181 [.ax 3 1 0 0])],.dead]⟩ .n)])])])])])])
noncomputable def U9:yC:=⟨[.po 3 0,.lf I],[.dead,.dead,.fQ,.box [.lf I,.lf (.list S),.lf (.list bT),.lf (.list I),.lf (.list I),.c (.mp 2),.c (.bL 179 [.ax 3 1 0 0]),.c (.bL 180 [.ax 3 1 0 0]),.c (.bL 181 [.ax 3 1 0 0])]],[]⟩
def Va:dj:=⟨[.lf I],[.dead,.dead,.fQ,.box [.lf I,.lf (.list S),.lf (.list bT),.lf (.list I),.lf (.list I),.c (.mp 2),.c (.bL 179 [.ax 3 1 0 0]),.c (.bL 180 [.ax 3 1 0 0]),.c (.bL 181 [.ax 3 1 0 0])],.dead],[I,(.list S),(.list I),I,(.list S),(.list bT),(.list I),(.list I)]⟩
def Vb:dj:=⟨[],[.lp .busy 999],[]⟩
noncomputable def Vc:eE GT:=⟨181,U9,[I,(.list S),(.list I),I,(.list S),(.list bT),(.list I),(.list I)],Va,Vb,fun x=>Ed x.1 x.2.1 x.2.2.1 x.2.2.2.1 x.2.2.2.2.1 x.2.2.2.2.2.1 x.2.2.2.2.2.2.1 x.2.2.2.2.2.2.2⟩
theorem Vd:Vc.Ok E0 hp sp.ge:=gZ U8 (fun x=>by kernel_rfl) (az Ue aV) aW iw qN
def Ve:An:= .n
noncomputable def Vf:yC:=⟨[.po 3 0,.lf I],[.dead,.dead,.fQ,.box [.lf I,.lf (.list S),.lf (.list bT),.lf (.list I),.lf (.list I),.c (.mp 2),.c (.bL 179 [.ax 3 1 0 0]),.c (.bL 180 [.ax 3 1 0 0]),.c (.bL 181 [.ax 3 1 0 0])]],[]⟩
def Vg:dj:=⟨[.lf I],[.dead,.dead,.fQ,.box [.lf I,.lf (.list S),.lf (.list bT),.lf (.list I),.lf (.list I),.c (.mp 2),.c (.bL 179 [.ax 3 1 0 0]),.c (.bL 180 [.ax 3 1 0 0]),.c (.bL 181 [.ax 3 1 0 0])]],[I,(.list S),(.list I),I,(.list S),(.list bT),(.list I),(.list I)]⟩
def Vh:dj:=⟨[],[.lp .busy 999],[]⟩
noncomputable def Vi:eE GT:=⟨180,Vf,[I,(.list S),(.list I),I,(.list S),(.list bT),(.list I),(.list I)],Vg,Vh,fun x=>Ee x.1 x.2.1 x.2.2.1 x.2.2.2.1 x.2.2.2.2.1 x.2.2.2.2.2.1 x.2.2.2.2.2.2.1 x.2.2.2.2.2.2.2⟩
theorem Vj:Vi.Ok E0 hp sp.ge:=gZ Ve (fun x=>by kernel_rfl) (az Qd (az Ud aV)) aW iw qN
def Vk:An:=(.s [.n,(.s [(.s [.n,(.j false ⟨[(.list S),(.list I),I,(.list S),(.list bT),(.list I),(.list I),B,I],[],[.dead,.dead,.fQ,.box [.lf I,.lf (.list S),.lf (.list bT),.lf (.list I),.lf (.list I),.c (.mp 2),.c (.bL 179 [.ax 3 1 0 0]),.c (.bL 180 [.ax 3 1 0 0]),.c (.bL 181 [.ax 3 1 0 0])],.box [.po 3 0],.dead,.dead,.box [.lf B],.dead,.box [.fn 228 [.po 4 0,.po 7 0,.bV [.lf I]]],.box [.fn 255 [.po 9 0,.po 10 0]]]⟩ (.s [(.o [(3,(.s [.n,(.j false ⟨[(.list S),(.list I),I,(.list S),(.list bT),(.list I),(.list I),B,I],[],[.dead,.dead,.fQ,.box [.lf I,.lf (.list S),.lf (.list bT),.lf (.list I),.lf (.list I),.c (.mp 2),.c (.bL 179 [.ax 3 1 0 0]),.c (.bL 180 [.ax 3 1 0 0]),.c (.bL 181 [.ax 3 1 0 0])],.box [.po 3 0],.dead,.dead,.box [.lf B],.dead,.box [.fn 228 [.po 4 0,.po 7 0,.bV [.lf I]]],.box [.fn 255 [.po 9 0,.po 10 0]]]⟩ .n)]))])]))]),(.s [.n,(.l false 0 ⟨[I,(.list S),(.list I),I,(.list S),(.list bT),(.list I),(.list I),B,I],[(16,.lf I)],[.dead,.dead,.fQ,.box [.lf I,.lf (.list S),.lf (.list bT),.lf (.list I),.lf (.list I),.c (.mp 2),.c (.bL 179 [.ax 3 1 0 0]),.c (.bL 180 [.ax 3 1 0 0]),.c (.bL 181 [.ax 3 1 0 0])],.box [.po 3 0],.dead,.dead,.box [.lf B],.dead,.box [.fn 228 [.po 4 0,.po 7 0,.bV [.lf I]]],.box [.fn 255 [.po 9 0,.po 10 0]]]⟩ ⟨[(.list S),(.list I),I,(.list S),(.list bT),(.list I),(.list I),B,I],[],[.dead,.dead,.fQ,.box [.lf I,.lf (.list S),.lf (.list bT),.lf (.list I),.lf (.list I),.c (.mp 2),.c (.bL 179 [.ax 3 1 0 0]),.c (.bL 180 [.ax 3 1 0 0]),.c (.bL 181 [.ax 3 1 0 0])],.box [.po 3 0],.dead,.dead,.box [.lf B],.dead,.box [.fn 228 [.po 4 0,.po 7 0,.bV [.lf I]]],.box [.fn 255 [.po 9 0,.po 10 0]]]⟩ .n)])])])
noncomputable def OQ:yC:=⟨[.lf b6,.po 9 0,.po 10 0],[.dead,.dead,.fQ,.box [.lf I,.lf (.list S),.lf (.list bT),.lf (.list I),.lf (.list I),.c (.mp 2),.c (.bL 179 [.ax 3 1 0 0]),.c (.bL 180 [.ax 3 1 0 0]),.c (.bL 181 [.ax 3 1 0 0])],.box [.po 3 0],.dead,.dead,.box [.lf B],.dead,.box [.fn 228 [.po 4 0,.po 7 0,.bV [.lf I]]],.box [.fn 255 [.po 9 0,.po 10 0]]],[]⟩
def OR:dj:=⟨[],[.dead,.dead,.fQ,.box [.lf I,.lf (.list S),.lf (.list bT),.lf (.list I),.lf (.list I),.c (.mp 2),.c (.bL 179 [.ax 3 1 0 0]),.c (.bL 180 [.ax 3 1 0 0]),.c (.bL 181 [.ax 3 1 0 0])],.box [.po 3 0],.dead,.dead,.box [.lf B],.dead,.box [.fn 228 [.po 4 0,.po 7 0,.bV [.lf I]]],.box [.fn 255 [.po 9 0,.po 10 0]]],[(.list S),(.list I),I,(.list S),(.list bT),(.list I),(.list I),B,I]⟩
def OS:dj:=⟨[],[.lp .busy 999],[]⟩
noncomputable def Vl (n:Nat):eE GT:=⟨255,OQ,[b6,(.list S),(.list I),I,(.list S),(.list bT),(.list I),(.list I),B,I],OR,OS,fun x=>Av n x.1 x.2.1 x.2.2.1 x.2.2.2.1 x.2.2.2.2.1 x.2.2.2.2.2.1 x.2.2.2.2.2.2.1 x.2.2.2.2.2.2.2.1 x.2.2.2.2.2.2.2.2.1 x.2.2.2.2.2.2.2.2.2⟩
theorem OT:∀ n,(Vl n).Ok E0 hp sp.ge
 | 0=>fun x r h=>nomatch h
 | n+1=>gZ Vk (fun x=>by kernel_rfl) (az Qc aV) aW (lH (OT n) iw) qN
noncomputable def Vm:eE GT:=⟨255,OQ,[b6,(.list S),(.list I),I,(.list S),(.list bT),(.list I),(.list I),B,I],OR,OS,fun x=>HK x.1 x.2.1 x.2.2.1 x.2.2.2.1 x.2.2.2.2.1 x.2.2.2.2.2.1 x.2.2.2.2.2.2.1 x.2.2.2.2.2.2.2.1 x.2.2.2.2.2.2.2.2.1 x.2.2.2.2.2.2.2.2.2⟩
theorem Vn:Vm.Ok E0 hp sp.ge:=OT fuel
def Vo:An:=(.s [.n,(.s [.n,(.s [.n,(.s [(.s [.n,(.s [.n,(.s [(.j false ⟨[B,(.list S),(.list I),I,(.list S),(.list bT),(.list I),(.list I),B,I],[(21,.lf B)],[.dead,.dead,.fQ,.box [.lf I,.lf (.list S),.lf (.list bT),.lf (.list I),.lf (.list I),.c (.mp 2),.c (.bL 179 [.ax 3 1 0 0]),.c (.bL 180 [.ax 3 1 0 0]),.c (.bL 181 [.ax 3 1 0 0])],.box [.po 3 0],.dead,.dead,.box [.lf B],.dead,.box [.fn 228 [.po 4 0,.po 7 0,.bV [.lf I]]],.box [.fn 255 [.po 9 0,.po 10 0]]]⟩ .n)])])])])])])])
noncomputable def Vp:yC:=⟨[.po 3 0,.lf I],[.dead,.dead,.fQ,.box [.lf I,.lf (.list S),.lf (.list bT),.lf (.list I),.lf (.list I),.c (.mp 2),.c (.bL 179 [.ax 3 1 0 0]),.c (.bL 180 [.ax 3 1 0 0]),.c (.bL 181 [.ax 3 1 0 0])]],[]⟩
def Vq:dj:=⟨[.lf I],[.dead,.dead,.fQ,.box [.lf I,.lf (.list S),.lf (.list bT),.lf (.list I),.lf (.list I),.c (.mp 2),.c (.bL 179 [.ax 3 1 0 0]),.c (.bL 180 [.ax 3 1 0 0]),.c (.bL 181 [.ax 3 1 0 0])],.box [.po 3 0],.dead,.dead,.box [.lf B],.dead,.box [.fn 228 [.po 4 0,.po 7 0,.bV [.lf I]]],.box [.fn 255 [.po 9 0,.po 10 0]]],[I,(.list S),(.list I),I,(.list S),(.list bT),(.list I),(.list I),B,I]⟩
def Vr:dj:=⟨[],[.lp .busy 999],[]⟩
noncomputable def Vt:eE GT:=⟨179,Vp,[I,(.list S),(.list I),I,(.list S),(.list bT),(.list I),(.list I)],Vq,Vr,fun x=>Ef x.1 x.2.1 x.2.2.1 x.2.2.2.1 x.2.2.2.2.1 x.2.2.2.2.2.1 x.2.2.2.2.2.2.1 x.2.2.2.2.2.2.2⟩
theorem Vu:Vt.Ok E0 hp sp.ge:=gZ Vo (fun x=>by kernel_rfl) (az Ue aV) aW (lH Vn iw) qN
def Vv:An:=(.s [.n,(.s [.n,(.s [.n,(.s [(.s [(.j false ⟨[B,(.list S),(.list I),I,(.list S),(.list bT),(.list I),(.list I)],[(30,.lf B)],[.dead,.dead,.fQ,.box [.lf I,.lf (.list S),.lf (.list bT),.lf (.list I),.lf (.list I),.c (.mp 2),.c (.bL 179 [.ax 3 1 0 0]),.c (.bL 180 [.ax 3 1 0 0]),.c (.bL 181 [.ax 3 1 0 0])]]⟩ .n)]),(.s [.n,(.s [(.j false ⟨[I,(.list S),(.list I),I,(.list S),(.list bT),(.list I),(.list I)],[(4,.lf I)],[.dead,.dead,.fQ,.box [.lf I,.lf (.list S),.lf (.list bT),.lf (.list I),.lf (.list I),.c (.mp 2),.c (.bL 179 [.ax 3 1 0 0]),.c (.bL 180 [.ax 3 1 0 0]),.c (.bL 181 [.ax 3 1 0 0])]]⟩ .n)])])])])])])
noncomputable def Vw:yC:=⟨[.po 3 0,.lf I],[.dead,.dead,.fQ,.box [.lf I,.lf (.list S),.lf (.list bT),.lf (.list I),.lf (.list I),.c (.mp 2),.c (.bL 179 [.ax 3 1 0 0]),.c (.bL 180 [.ax 3 1 0 0]),.c (.bL 181 [.ax 3 1 0 0])]],[]⟩
def Vx:dj:=⟨[.lf I],[.dead,.dead,.fQ,.box [.lf I,.lf (.list S),.lf (.list bT),.lf (.list I),.lf (.list I),.c (.mp 2),.c (.bL 179 [.ax 3 1 0 0]),.c (.bL 180 [.ax 3 1 0 0]),.c (.bL 181 [.ax 3 1 0 0])]],[I,(.list S),(.list I),I,(.list S),(.list bT),(.list I),(.list I)]⟩
def Vy:dj:=⟨[],[.lp .busy 999],[]⟩
noncomputable def Vz:eE GT:=⟨184,Vw,[I,(.list S),(.list I),I,(.list S),(.list bT),(.list I),(.list I)],Vx,Vy,fun x=>Eg x.1 x.2.1 x.2.2.1 x.2.2.2.1 x.2.2.2.2.1 x.2.2.2.2.2.1 x.2.2.2.2.2.2.1 x.2.2.2.2.2.2.2⟩
theorem VA:Vz.Ok E0 hp sp.ge:=gZ Vv (fun x=>by kernel_rfl) (az Qd (az Ud aV)) aW (lH OL (lH Vd (lH Vj (lH Vu iw)))) qN
def aae:An:=(.s [.n,(.s [(.j false ⟨[B],[(3,.lf B)],[]⟩ .n)])])
def aaf:b7 GT:=⟨185,[.lf I,.bV [.lf I,.lf (.list S),.lf (.list bT),.lf (.list I),.lf (.list I)]],[I,I,(.list S),(.list bT),(.list I),(.list I)],[B],fun x=>Qf x.1 x.2.1 x.2.2.1 x.2.2.2.1 x.2.2.2.2.1 x.2.2.2.2.2⟩
theorem aag:aaf.Ok E0 hp sp.ge:=aD aae (fun x=>by kernel_rfl) (az Qd aV) aW
def JU:An:=(.s [.n,(.s [(.s [.n,(.l true 0 ⟨[I],[(8,.lf I)],[]⟩ ⟨[],[],[]⟩ .n)])])])
def JV:b7 GT:=⟨223,[.lf (.list I),.fn 185 [.bV [.lf I,.lf (.list S),.lf (.list bT),.lf (.list I),.lf (.list I)]]],[(.list I),I,(.list S),(.list bT),(.list I),(.list I)],[I],fun x=>uR x.1 x.2.1 x.2.2.1 x.2.2.2.1 x.2.2.2.2.1 x.2.2.2.2.2⟩
theorem JW:JV.Ok E0 hp sp.ge:=aD JU (fun x=>by kernel_rfl) (az aag aV) aW
def JX:An:= .n
def JY:b7 GT:=⟨160,[.lf (.list I),.fn 185 [.bV [.lf I,.lf (.list S),.lf (.list bT),.lf (.list I),.lf (.list I)]]],[(.list I),I,(.list S),(.list bT),(.list I),(.list I)],[B],fun x=>qe x.1 x.2.1 x.2.2.1 x.2.2.2.1 x.2.2.2.2.1 x.2.2.2.2.2⟩
theorem JZ:JY.Ok E0 hp sp.ge:=aD JX (fun x=>by kernel_rfl) (az JW aV) aW
def a64:An:=(.s [.n,(.s [(.o [(1,(.s [.n,(.s [(.s [(.j false ⟨[B],[(18,.lf B)],[.dead,.dead]⟩ .n)]),(.s [(.s [(.j false ⟨[B],[(28,.lf B)],[.dead,.dead]⟩ .n)]),(.s [.n,(.s [.n,(.s [(.s [.n,(.l false 0 ⟨[I,(.list S),(.list I),I,(.list S),(.list bT),(.list I),(.list I)],[(46,.lf I)],[.dead,.dead,.fQ,.box [.lf I,.lf (.list S),.lf (.list bT),.lf (.list I),.lf (.list I),.c (.mp 2),.c (.bL 179 [.ax 3 1 0 0]),.c (.bL 180 [.ax 3 1 0 0]),.c (.bL 181 [.ax 3 1 0 0])]]⟩ ⟨[(.list S),(.list I),I,(.list S),(.list bT),(.list I),(.list I)],[],[.dead,.dead,.fQ,.box [.lf I,.lf (.list S),.lf (.list bT),.lf (.list I),.lf (.list I),.c (.mp 2),.c (.bL 179 [.ax 3 1 0 0]),.c (.bL 180 [.ax 3 1 0 0]),.c (.bL 181 [.ax 3 1 0 0])]]⟩ .n)]),(.s [(.s [.n,(.l true 2 ⟨[I,(.list S),(.list I),I,(.list S),(.list bT),(.list I),(.list I)],[(61,.lf I)],[.dead,.dead,.fQ,.box [.lf I,.lf (.list S),.lf (.list bT),.lf (.list I),.lf (.list I),.c (.mp 2),.c (.bL 179 [.ax 3 1 0 0]),.c (.bL 180 [.ax 3 1 0 0]),.c (.bL 181 [.ax 3 1 0 0])]]⟩ ⟨[(.list S),(.list I),I,(.list S),(.list bT),(.list I),(.list I)],[],[.dead,.dead,.fQ,.box [.lf I,.lf (.list S),.lf (.list bT),.lf (.list I),.lf (.list I),.c (.mp 2),.c (.bL 179 [.ax 3 1 0 0]),.c (.bL 180 [.ax 3 1 0 0]),.c (.bL 181 [.ax 3 1 0 0])]]⟩ .n)]),(.s [(.s [.n,(.l true 4 ⟨[I,(.list S),(.list I),I,(.list S),(.list bT),(.list I),(.list I)],[(75,.lf I)],[.dead,.dead,.fQ,.box [.lf I,.lf (.list S),.lf (.list bT),.lf (.list I),.lf (.list I),.c (.mp 2),.c (.bL 179 [.ax 3 1 0 0]),.c (.bL 180 [.ax 3 1 0 0]),.c (.bL 181 [.ax 3 1 0 0])]]⟩ ⟨[(.list S),(.list I),I,(.list S),(.list bT),(.list I),(.list I)],[],[.dead,.dead,.fQ,.box [.lf I,.lf (.list S),.lf (.list bT),.lf (.list I),.lf (.list I),.c (.mp 2),.c (.bL 179 [.ax 3 1 0 0]),.c (.bL 180 [.ax 3 1 0 0]),.c (.bL 181 [.ax 3 1 0 0])]]⟩ .n)]),(.s [(.s [(.j false ⟨[B,(.list S),(.list I),I,(.list S),(.list bT),(.list I),(.list I)],[(98,.lf B)],[.dead,.dead,.fQ,.box [.lf I,.lf (.list S),.lf (.list bT),.lf (.list I),.lf (.list I),.c (.mp 2),.c (.bL 179 [.ax 3 1 0 0]),.c (.bL 180 [.ax 3 1 0 0]),.c (.bL 181 [.ax 3 1 0 0])]]⟩ .n)]),(.s [(.s [(.s [(.o [(5,(.s [.n,(.s [.n,(.s [(.s [.n,(.l false 0 ⟨[I,I,(.list S),(.list I),I,(.list S),(.list bT),(.list I),(.list I),(.list (.list I))],[(3,.lf I),(11,.lf I)],[.dead,.dead,.fQ,.box [.lf I,.lf (.list S),.lf (.list bT),.lf (.list I),.lf (.list I),.c (.mp 2),.c (.bL 179 [.ax 3 1 0 0]),.c (.bL 180 [.ax 3 1 0 0]),.c (.bL 181 [.ax 3 1 0 0])],.bg .norm (.list I)]⟩ ⟨[I,(.list S),(.list I),I,(.list S),(.list bT),(.list I),(.list I),(.list (.list I))],[(3,.lf I)],[.dead,.dead,.fQ,.box [.lf I,.lf (.list S),.lf (.list bT),.lf (.list I),.lf (.list I),.c (.mp 2),.c (.bL 179 [.ax 3 1 0 0]),.c (.bL 180 [.ax 3 1 0 0]),.c (.bL 181 [.ax 3 1 0 0])],.bg .norm (.list I)]⟩ .n)]),(.s [(.o [(1,(.s [.n,(.s [.n,(.s [(.s [.n,(.s [.n,(.s [.n,.z])])])])])]))]),(.s [(.s [.n,(.l false 2 ⟨[I,(.list S),(.list I),I,(.list S),(.list bT),(.list I),(.list I),(.list (.list I)),(.list I)],[(6,.own 5),(27,.lf I)],[.dead,.dead,.fQ,.box [.lf I,.lf (.list S),.lf (.list bT),.lf (.list I),.lf (.list I),.c (.mp 2),.c (.bL 179 [.ax 3 1 0 0]),.c (.bL 180 [.ax 3 1 0 0]),.c (.bL 181 [.ax 3 1 0 0])],.bg .norm (.list I),.bg .norm I]⟩ ⟨[(.list S),(.list I),I,(.list S),(.list bT),(.list I),(.list I),(.list (.list I)),(.list I)],[(6,.own 5)],[.dead,.dead,.fQ,.box [.lf I,.lf (.list S),.lf (.list bT),.lf (.list I),.lf (.list I),.c (.mp 2),.c (.bL 179 [.ax 3 1 0 0]),.c (.bL 180 [.ax 3 1 0 0]),.c (.bL 181 [.ax 3 1 0 0])],.bg .norm (.list I),.bg .norm I]⟩ .n)])])])])])]))])])])])])])])])])])])])]))])])])
def c64:b7 GT:=⟨64,[.lf lN],[lN],[I],fun x=>m64 x⟩
theorem k64:c64.Ok E0 hp sp.ge:=pP a64 (fun x=>by kernel_rfl) (az ZU (az JZ aV)) aW (lH OL (lH VA iw)) qN
def aah:An:=(.s [.n,(.s [(.j false ⟨[B],[(3,.lf B)],[]⟩ .n)])])
def aai:b7 GT:=⟨159,[.lf I,.bV [.lf I]],[I,I],[B],fun x=>P7 x.1 x.2⟩
theorem aaj:aai.Ok E0 hp sp.ge:=aD aah (fun x=>by kernel_rfl) aV aW
def J0:An:=(.s [.n,(.s [(.s [.n,(.l true 0 ⟨[I],[(8,.lf I)],[]⟩ ⟨[],[],[]⟩ .n)])])])
def J1:b7 GT:=⟨223,[.lf (.list I),.fn 159 [.bV [.lf I]]],[(.list I),I],[I],fun x=>uJ x.1 x.2⟩
theorem J2:J1.Ok E0 hp sp.ge:=aD J0 (fun x=>by kernel_rfl) (az aaj aV) aW
def J3:An:= .n
def J4:b7 GT:=⟨160,[.lf (.list I),.fn 159 [.bV [.lf I]]],[(.list I),I],[B],fun x=>mH x.1 x.2⟩
theorem J5:J4.Ok E0 hp sp.ge:=aD J3 (fun x=>by kernel_rfl) (az J2 aV) aW
theorem Ri:Pt E0 hp 158 [.int .i64 3] (.fn 159 [.bV [.int .i64 3]]):=Qe (by kernel_rfl) (by kernel_rfl)
theorem Rj:Pt E0 hp 158 [.int .i64 4] (.fn 159 [.bV [.int .i64 4]]):=Qe (by kernel_rfl) (by kernel_rfl)
def a94:An:=(.s [.n,(.s [.n,(.s [(.s [(.j false ⟨[B],[(49,.lf B)],[.dead,.dead]⟩ .n)]),(.s [.n,(.s [(.s [(.j false ⟨[B],[(61,.lf B)],[.dead,.dead]⟩ .n)]),(.s [(.s [.n,(.l true 0 ⟨[I],[(65,.lf I)],[.dead,.dead]⟩ ⟨[],[],[.dead,.dead]⟩ (.s [.n,(.s [.n,(.s [(.s [.n,(.s [.n,(.s [(.j false ⟨[B],[(95,.lf B)],[.dead,.dead]⟩ .n)])])])])])]))])])])])])])])
def c94:b7 GT:=⟨94,[.lf lN,.lf r9],[lN,r9],[I],fun x=>Wz x.1 x.2⟩
theorem k94:c94.Ok E0 hp sp.ge:=pP a94 (fun x=>by kernel_rfl) (az J5 aV) aW iw (HJ (p:=(158,[.int .i64 4],.fn 159 [.bV [.int .i64 4]])) Rj (HJ (p:=(158,[.int .i64 3],.fn 159 [.bV [.int .i64 3]])) Ri qN))
def a52:An:= .n
def c52:b7 GT:=⟨52,[.lf lN,.lf r9],[lN,r9],[I],fun x=>WA x.1 x.2⟩
theorem k52:c52.Ok E0 hp sp.ge:=aD a52 (fun x=>by kernel_rfl) (az k64 (az k94 aV)) aW
def a19:An:=(.s [.n,(.s [.n,(.s [.n,(.s [.n,(.s [.n,(.s [(.s [.n,(.l false 0 ⟨[I,(.list I)],[(10,.own 3),(33,.lf I)],[.dead,.dead,.dead,.bg .nil I]⟩ ⟨[(.list I)],[(10,.own 3)],[.dead,.dead,.dead,.bg .nil I]⟩ (.s [.n,(.s [.n,(.s [(.s [.n,(.s [.n,(.j false ⟨[(.list I)],[(10,.own 3)],[.dead,.dead,.dead,.bg .nil I]⟩ .n)])])])])]))])])])])])])])
def c19:b7 GT:=⟨19,[.lf ij,.lf r9],[ij,r9],[(.list I),I],fun x=>Tp x.1 x.2⟩
theorem k19:c19.Ok E0 hp sp.ge:=aD a19 (fun x=>by kernel_rfl) (az k43 (az k52 aV)) aW
def a17:An:= .n
def c17:b7 GT:=⟨17,[.lf ij,.lf r9],[ij,r9],[I,I],fun x=>WQ x.1 x.2⟩
theorem k17:c17.Ok E0 hp sp.ge:=aD a17 (fun x=>by kernel_rfl) (az k19 aV) aW
def a99:An:= .n
def c99:b7 GT:=⟨99,[.lf ij],[ij],[I],fun x=>PD x⟩
theorem k99:c99.Ok E0 hp sp.ge:=aD a99 (fun x=>by kernel_rfl) aV aW
def aak:An:=(.s [.n,(.s [.n,(.s [(.s [.n,(.l false 0 ⟨[I,I,I,(.list lM),(.list I),I,(.list lM),(.list I)],[(1,.lf I),(6,.lf I)],[.dead,.box [.lf I,.lf (.list lM),.lf (.list I)],.box [.lf I,.lf (.list lM),.own 3],.bg .nil I]⟩ ⟨[I,(.list lM),(.list I),I,(.list lM),(.list I)],[],[.dead,.box [.lf I,.lf (.list lM),.lf (.list I)],.box [.lf I,.lf (.list lM),.own 3],.bg .nil I]⟩ (.s [.n,(.s [(.j false ⟨[I,I,(.list lM),(.list I),I,(.list lM),(.list I)],[(1,.lf I)],[.dead,.box [.lf I,.lf (.list lM),.lf (.list I)],.box [.lf I,.lf (.list lM),.own 3],.bg .nil I]⟩ .n)])]))])])])])
def aal:b7 GT:=⟨130,[.lf ij,.lf I],[ij,I],[Ln],fun x=>L7 x.1 x.2⟩
theorem aam:aal.Ok E0 hp sp.ge:=aD aak (fun x=>by kernel_rfl) aV aW
def a84:An:= .n
def c84:b7 GT:=⟨84,[.lf ij],[ij],[Ln],fun x=>Oo x⟩
theorem WR:c84.Ok E0 hp sp.ge:=aD a84 (fun x=>by kernel_rfl) (az k99 (az aam aV)) aW
def a75:An:=(.s [.n,(.s [.n,(.s [(.s [.n,(.l false 0 ⟨[I,I],[(3,.lf I),(4,.lf I)],[.dead]⟩ ⟨[I],[(3,.lf I)],[.dead]⟩ (.s [.n,(.s [(.s [.n,(.j false ⟨[I],[(3,.lf I)],[.dead]⟩ .n)])])]))])])])])
def c75:b7 GT:=⟨75,[.lf Ln],[Ln],[I],fun x=>WS x⟩
theorem k75:c75.Ok E0 hp sp.ge:=aD a75 (fun x=>by kernel_rfl) aV aW
def a44:An:= .n
def c44:b7 GT:=⟨44,[.lf ij],[ij],[I],fun x=>WT x⟩
theorem k44:c44.Ok E0 hp sp.ge:=aD a44 (fun x=>by kernel_rfl) (az k49 (az WR (az k75 aV))) aW
def a87:An:=(.s [.n,(.s [.n,(.s [.n,(.s [(.s [.n,(.l false 0 ⟨[I,(.list I)],[(3,.own 1),(4,.lf I)],[.dead,.bg .nil I]⟩ ⟨[(.list I)],[(3,.own 1)],[.dead,.bg .nil I]⟩ .n)])])])])])
def c87:b7 GT:=⟨87,[.lf ij],[ij],[(.list I)],fun x=>Oq x⟩
theorem XE:c87.Ok E0 hp sp.ge:=aD a87 (fun x=>by kernel_rfl) (az k99 aV) aW
def aan:An:= .n
def aao:b7 GT:=⟨147,[.lf I],[I],[b6],fun x=>wI x⟩
theorem G8:aao.Ok E0 hp sp.ge:=aD aan (fun x=>by kernel_rfl) aV aW
def aap:An:=(.s [.n,(.s [.n,(.s [(.s [.n,(.l false 0 ⟨[I,(.list b6)],[(3,.own 1),(4,.lf I)],[.dead,.bg .nil b6]⟩ ⟨[(.list b6)],[(3,.own 1)],[.dead,.bg .nil b6]⟩ (.s [.n,(.s [(.s [.n,(.s [(.s [.n,(.j false ⟨[I,(.list b6)],[(5,.lf I)],[.dead,.bg .nil b6]⟩ .n)])])])])]))])])])])
def aaq:b7 GT:=⟨151,[.lf lM],[lM],[(.list b6)],fun x=>G9 x⟩
theorem Uf:aaq.Ok E0 hp sp.ge:=aD aap (fun x=>by kernel_rfl) (az G8 aV) aW
def aar:An:= .n
def aas:b7 GT:=⟨149,[.lf Ln,.lf I],[Ln,I],[(.list b6)],fun x=>FN x.1 x.2⟩
theorem Ug:aas.Ok E0 hp sp.ge:=aD aar (fun x=>by kernel_rfl) (az G8 (az Uf aV)) aW
def aat:An:= .n
def aau:b7 GT:=⟨148,[.lf I,.lf (.list b6)],[I,(.list b6)],[b6],fun x=>sO x.1 x.2⟩
theorem L8:aau.Ok E0 hp sp.ge:=aD aat (fun x=>by kernel_rfl) aV aW
def aav:An:= .n
def aaw:b7 GT:=⟨150,[.lf ij,.lf I],[ij,I],[b6],fun x=>Qg x.1 x.2⟩
theorem aax:aaw.Ok E0 hp sp.ge:=aD aav (fun x=>by kernel_rfl) (az WR (az Ug (az L8 aV))) aW
def aay:An:=(.s [.n,(.s [.n,(.s [(.s [.n,(.l false 0 ⟨[S,I],[(5,.lf S),(6,.lf I)],[]⟩ ⟨[S],[(5,.lf S)],[]⟩ (.s [(.s [(.j false ⟨[B],[(13,.lf B)],[]⟩ .n)])]))])])])])
def aaz:b7 GT:=⟨109,[.lf S,.lf I],[S,I],[S],fun x=>CU x.1 x.2⟩
theorem Uh:aaz.Ok E0 hp sp.ge:=aD aay (fun x=>by kernel_rfl) aV aW
def a85:An:=(.s [.n,(.s [.n,(.s [.n,(.s [.n,(.s [.n,(.s [(.s [.n,(.l false 0 ⟨[I,(.list bT)],[(8,.own 3),(9,.lf I)],[.dead,.dead,.dead,.bg .nil bT]⟩ ⟨[(.list bT)],[(8,.own 3)],[.dead,.dead,.dead,.bg .nil bT]⟩ (.s [.n,(.s [(.s [.n,(.s [.n,(.s [(.s [.n,(.j false ⟨[(.list bT),(.list b6)],[(11,.own 4)],[.dead,.dead,.dead,.bg .nil bT,.bg .norm b6]⟩ .n)])])])])])]))])])])])])])])
def d85:dz GT:=⟨85,[.lf ij],[ij],bT,fun x=>WU x⟩
theorem l85:d85.Ok E0 hp sp.ge:=zn a85 (fun x=>by kernel_rfl) (az WR (az XE (az G8 (az Ug (az L8 (az aax (az Uh aV))))))) aW
def a86:An:=(.s [.n,(.s [.n,(.s [(.s [.n,(.l false 0 ⟨[I,(.list bT)],[(5,.own 1),(6,.lf I)],[.dead,.bg .nil bT]⟩ ⟨[(.list bT)],[(5,.own 1)],[.dead,.bg .nil bT]⟩ (.s [.n,(.s [(.s [.n,(.j false ⟨[(.list bT)],[(5,.own 1)],[.dead,.bg .nil bT]⟩ .n)])])]))])])])])
def c86:b7 GT:=⟨86,[.lf Ln,.lf (.list I)],[Ln,(.list I)],[(.list bT)],fun x=>WV x.1 x.2⟩
theorem k86:c86.Ok E0 hp sp.ge:=aD a86 (fun x=>by kernel_rfl) (az G8 (az Uf (az Uh (az L8 aV)))) aW
def a88:An:=(.s [.n,(.s [.n,(.s [(.s [.n,(.l false 0 ⟨[I,(.list bT)],[(5,.own 1),(6,.lf I)],[.dead,.bg .nil bT]⟩ ⟨[(.list bT)],[(5,.own 1)],[.dead,.bg .nil bT]⟩ (.s [.n,(.s [(.s [.n,(.l false 2 ⟨[I,(.list bT)],[(5,.own 1),(22,.lf I)],[.dead,.bg .nil bT]⟩ ⟨[(.list bT)],[(5,.own 1)],[.dead,.bg .nil bT]⟩ (.s [.n,(.s [.n,(.s [(.s [.n,(.s [.n,(.s [(.s [.n,(.l false 4 ⟨[I,(.list bT),(.list b6)],[(9,.own 2),(10,.lf I)],[.dead,.bg .nil bT,.bg .nil b6]⟩ ⟨[(.list bT),(.list b6)],[(9,.own 2)],[.dead,.bg .nil bT,.bg .nil b6]⟩ (.s [.n,(.s [(.s [.n,(.l false 6 ⟨[I,(.list bT),(.list b6)],[(9,.own 2),(11,.lf I)],[.dead,.bg .nil bT,.bg .nil b6]⟩ ⟨[(.list bT),(.list b6)],[(9,.own 2)],[.dead,.bg .nil bT,.bg .nil b6]⟩ (.s [.n,(.s [(.s [.n,(.j false ⟨[(.list bT),(.list b6)],[(9,.own 2)],[.dead,.bg .nil bT,.bg .nil b6]⟩ .n)])])]))])])]))]),(.s [.n,(.s [(.s [.n,(.j false ⟨[S,(.list bT),(.list b6)],[(12,.lf S)],[.dead,.bg .nil bT,.bg .nil b6]⟩ .n)])])])])])])])])]))])])]))])])])])
def c88:b7 GT:=⟨88,[.lf Ln,.lf (.list I)],[Ln,(.list I)],[(.list bT)],fun x=>WW x.1 x.2⟩
theorem k88:c88.Ok E0 hp sp.ge:=aD a88 (fun x=>by kernel_rfl) (az G8 (az L8 aV)) aW
def aaA:An:= .n
def aaB:b7 GT:=⟨152,[.lf lN],[lN],[I],fun x=>lY x⟩
theorem Qh:aaB.Ok E0 hp sp.ge:=aD aaA (fun x=>by kernel_rfl) aV aW
def a45:An:=(.s [.n,(.s [.n,(.s [.n,(.s [.n,(.s [.n,(.s [(.o [(1,(.s [.n,(.s [.n,(.s [(.s [.n,(.l false 0 ⟨[I,I,(.list S),(.list bT),(.list I),(.list I),(.list S),(.list bT),I,I,I,(.list S),(.list bT),(.list I),(.list I),(.list I),(.list I)],[(4,.lf I)],[.dead,.box [.lf I,.lf (.list S),.lf (.list bT),.lf (.list I),.lf (.list I)],.dead,.bg .norm S,.bg .norm bT,.box [.lf I,.own 3,.own 4,.c .bx,.c .bx],.box [.lf I,.own 3,.own 4,.own 8,.own 9],.box [.lf I,.lf (.list S),.lf (.list bT),.lf (.list I),.lf (.list I)],.bg .nil I,.bg .nil I]⟩ ⟨[I,(.list S),(.list bT),(.list I),(.list I),(.list S),(.list bT),I,I,I,(.list S),(.list bT),(.list I),(.list I),(.list I),(.list I)],[],[.dead,.box [.lf I,.lf (.list S),.lf (.list bT),.lf (.list I),.lf (.list I)],.dead,.bg .norm S,.bg .norm bT,.box [.lf I,.own 3,.own 4,.c .bx,.c .bx],.box [.lf I,.own 3,.own 4,.own 8,.own 9],.box [.lf I,.lf (.list S),.lf (.list bT),.lf (.list I),.lf (.list I)],.bg .nil I,.bg .nil I]⟩ .n)])])])]))])])])])])])])
def c45:b7 GT:=⟨45,[.lf ij],[ij],[lN],fun x=>Tq x⟩
theorem k45:c45.Ok E0 hp sp.ge:=aD a45 (fun x=>by kernel_rfl) (az WR (az XE (az k86 (az k88 (az Qh aV))))) (HH l85 aW)
def aaC:An:= .n
def aaD:b7 GT:=⟨199,[.lf lN],[lN],[I],fun x=>qM x⟩
theorem Qi:aaD.Ok E0 hp sp.ge:=aD aaC (fun x=>by kernel_rfl) aV aW
def aaE:An:= .n
def aaF:b7 GT:=⟨197,[.lf lN,.lf I],[lN,I],[S],fun x=>sM x.1 x.2⟩
theorem aaG:aaF.Ok E0 hp sp.ge:=aD aaE (fun x=>by kernel_rfl) (az Qi aV) aW
def aaH:An:=(.s [.n,(.s [(.s [.n,(.l true 0 ⟨[I],[(3,.lf I)],[]⟩ ⟨[],[],[]⟩ (.s [.n,(.s [(.s [(.j false ⟨[B,B],[(4,.lf B),(5,.lf B)],[]⟩ .n),(.s [(.j false ⟨[B],[(63,.lf B)],[]⟩ .n)])])])]))])])])
def aaI:b7 GT:=⟨198,[.lf S],[S],[B],fun x=>L9 x⟩
theorem aaJ:aaI.Ok E0 hp sp.ge:=aD aaH (fun x=>by kernel_rfl) aV aW
def aaK:An:=(.s [.n,(.s [.n,(.s [.n,(.s [.n,(.s [(.s [.n,(.l true 0 ⟨[I],[(6,.lf I)],[.dead]⟩ ⟨[],[],[.dead]⟩ .n)])])])])])])
def aaL:b7 GT:=⟨121,[.lf lN,.lf I],[lN,I],[I],fun x=>wJ x.1 x.2⟩
theorem Ui:aaL.Ok E0 hp sp.ge:=aD aaK (fun x=>by kernel_rfl) (az aaG (az aaJ aV)) aW
def aaM:An:=(.s [.n,(.s [.n,(.s [(.s [.n,(.l false 0 ⟨[I,I],[(5,.lf I),(6,.lf I)],[.dead]⟩ ⟨[I],[(5,.lf I)],[.dead]⟩ (.s [(.s [(.j false ⟨[B],[(16,.lf B)],[.dead]⟩ .n)])]))])])])])
def aaN (n:Nat):b7 GT:=⟨111,[.lf b6,.lf I],[b6,I],[I],fun x=>FO n x.1 x.2⟩
theorem Uj:∀ n,(aaN n).Ok E0 hp sp.ge
 | 0=>fun x r h=>nomatch h
 | n+1=>aD aaM (fun x=>by kernel_rfl) (az (Uj n) aV) aW
def aaO:b7 GT:=⟨111,[.lf b6,.lf I],[b6,I],[I],fun x=>Qj x.1 x.2⟩
theorem aaP:aaO.Ok E0 hp sp.ge:=Uj fuel
def aaQ:An:=(.s [.n,(.s [.n,(.s [.n,(.s [(.s [.n,(.l true 0 ⟨[I],[(5,.lf I)],[.dead]⟩ ⟨[],[],[.dead]⟩ .n)])])])])])
def aaR (n:Nat):b7 GT:=⟨112,[.lf b6,.lf I],[b6,I],[B],fun x=>He n x.1 x.2⟩
theorem Uk:∀ n,(aaR n).Ok E0 hp sp.ge
 | 0=>fun x r h=>nomatch h
 | n+1=>aD aaQ (fun x=>by kernel_rfl) (az (Uk n) aV) aW
def aaS:b7 GT:=⟨112,[.lf b6,.lf I],[b6,I],[B],fun x=>Qk x.1 x.2⟩
theorem aaT:aaS.Ok E0 hp sp.ge:=Uk fuel
def a63:An:=(.s [.n,(.s [(.j false ⟨[B],[(2,.lf B)],[.dead]⟩ .n)])])
def c63:b7 GT:=⟨63,[.lf b6],[b6],[B],fun x=>WX x⟩
theorem k63:c63.Ok E0 hp sp.ge:=aD a63 (fun x=>by kernel_rfl) (az aaP (az aaT aV)) aW
def aaU:An:=(.s [.n,(.s [(.s [(.j false ⟨[B],[(14,.lf B)],[.dead]⟩ .n)]),(.s [.n,(.s [(.s [(.j false ⟨[B],[(42,.lf B)],[.dead]⟩ .n)]),(.s [.n,(.s [(.s [.n,(.j false ⟨[I],[(6,.lf I)],[.dead]⟩ .n)]),(.s [(.s [.n,(.j false ⟨[I],[(6,.lf I)],[.dead]⟩ .n)]),(.s [(.s [(.j false ⟨[B],[(58,.lf B)],[.dead]⟩ .n)])])])])])])])])])
def aaV:b7 GT:=⟨261,[.lf b6,.lf I],[b6,I],[I],fun x=>Aj x.1 x.2⟩
theorem aaW:aaV.Ok E0 hp sp.ge:=aD aaU (fun x=>by kernel_rfl) aV aW
def aaX:An:=(.s [.n,(.s [.n,(.s [(.s [.n,(.l true 0 ⟨[I],[(6,.lf I)],[.dead]⟩ ⟨[],[],[.dead]⟩ .n)])])])])
def aaY (n:Nat):b7 GT:=⟨238,[.lf b6,.lf I],[b6,I],[I],fun x=>oj n x.1 x.2⟩
theorem Ul:∀ n,(aaY n).Ok E0 hp sp.ge
 | 0=>fun x r h=>nomatch h
 | n+1=>aD aaX (fun x=>by kernel_rfl) (az (Ul n) (az aaW aV)) aW
def aaZ:b7 GT:=⟨238,[.lf b6,.lf I],[b6,I],[I],fun x=>Hf x.1 x.2⟩
theorem aa0:aaZ.Ok E0 hp sp.ge:=Ul fuel
def aa1:An:=(.s [.n,(.s [(.s [(.j false ⟨[B],[(10,.lf B)],[.dead]⟩ .n)])])])
def aa2:b7 GT:=⟨200,[.lf b6,.lf I],[b6,I],[I],fun x=>tQ x.1 x.2⟩
theorem aa3:aa2.Ok E0 hp sp.ge:=aD aa1 (fun x=>by kernel_rfl) (az k63 (az aa0 aV)) aW
def aa4:An:=(.s [.n,(.s [.n,(.s [(.s [.n,(.l true 0 ⟨[I],[(5,.lf I)],[.dead]⟩ ⟨[],[],[.dead]⟩ .n)])])])])
def aa5 (n:Nat):b7 GT:=⟨239,[.lf b6,.lf I],[b6,I],[B],fun x=>Hg n x.1 x.2⟩
theorem Um:∀ n,(aa5 n).Ok E0 hp sp.ge
 | 0=>fun x r h=>nomatch h
 | n+1=>aD aa4 (fun x=>by kernel_rfl) (az (Um n) aV) aW
def aa6:b7 GT:=⟨239,[.lf b6,.lf I],[b6,I],[B],fun x=>Ql x.1 x.2⟩
theorem aa7:aa6.Ok E0 hp sp.ge:=Um fuel
def aa8:An:=(.s [.n,(.s [(.s [.n,(.l true 0 ⟨[I],[(5,.lf I)],[.dead]⟩ ⟨[],[],[.dead]⟩ (.s [.n,(.s [(.s [(.j false ⟨[B],[(33,.lf B)],[.dead]⟩ .n)])])]))])])])
def aa9:b7 GT:=⟨201,[.lf lN,.lf I],[lN,I],[B],fun x=>Ma x.1 x.2⟩
theorem aba:aa9.Ok E0 hp sp.ge:=aD aa8 (fun x=>by kernel_rfl) (az Qi (az aa7 aV)) aW
def abb:An:=(.s [.n,(.s [(.j false ⟨[B],[(2,.lf B)],[.dead]⟩ .n)])])
def abc:b7 GT:=⟨202,[.lf b6],[b6],[B],fun x=>FQ x⟩
theorem abd:abc.Ok E0 hp sp.ge:=aD abb (fun x=>by kernel_rfl) aV aW
def abe:An:=(.s [.n,(.s [.n,(.s [.n,(.s [(.s [(.j false ⟨[B],[(32,.lf B)],[.dead,.dead]⟩ .n)]),(.s [.n,(.s [.n,(.s [(.s [.n,(.j true ⟨[],[],[.dead,.dead]⟩ .n)]),(.s [(.s [(.j false ⟨[B],[(63,.lf B)],[.dead,.dead]⟩ .n)]),(.s [(.s [(.j false ⟨[B],[(74,.lf B)],[.dead,.dead]⟩ .n)]),(.s [(.s [(.j false ⟨[B],[(95,.lf B)],[.dead,.dead]⟩ .n)])])])])])])])])])])])
def abf:b7 GT:=⟨122,[.lf lN,.lf I],[lN,I],[I],fun x=>Ak x.1 x.2⟩
theorem abg:abf.Ok E0 hp sp.ge:=aD abe (fun x=>by kernel_rfl) (az Qi (az Ui (az Qh (az aa3 (az aba (az abd aV)))))) aW
def abh:An:=(.s [.n,(.s [(.s [(.j false ⟨[B],[(19,.lf B)],[.dead]⟩ .n)]),(.s [(.s [.n,(.l true 0 ⟨[I],[(26,.lf I)],[.dead]⟩ ⟨[],[],[.dead]⟩ (.s [.n,(.s [.n,(.s [(.s [(.o [(0,(.j true ⟨[(.list I)],[(28,.bV [.lf (.list I)])],[.dead]⟩ .n))]),(.s [.n,(.l true 2 ⟨[I],[(5,.lf I)],[.dead]⟩ ⟨[],[],[.dead]⟩ (.s [.n,(.s [(.s [(.j false ⟨[B],[(49,.lf B)],[.dead]⟩ .n)])])]))])])])])]))])])])])
def abi:b7 GT:=⟨123,[.lf lN],[lN],[I],fun x=>Mb x⟩
theorem abj:abi.Ok E0 hp sp.ge:=aD abh (fun x=>by kernel_rfl) (az Qh aV) aW
def a69:An:=(.s [.n,(.s [(.s [(.j false ⟨[B],[(14,.lf B)],[.dead]⟩ .n)]),(.s [(.s [(.j false ⟨[B],[(24,.lf B)],[.dead]⟩ .n)]),(.s [(.s [.n,(.l true 0 ⟨[I],[(3,.lf I)],[.dead]⟩ ⟨[],[],[.dead]⟩ .n)]),(.s [(.s [.n,(.l true 2 ⟨[I],[(5,.lf I)],[.dead]⟩ ⟨[],[],[.dead]⟩ .n)])])])])])])
def c69:b7 GT:=⟨69,[.lf lN],[lN],[I],fun x=>S1 x⟩
theorem k69:c69.Ok E0 hp sp.ge:=aD a69 (fun x=>by kernel_rfl) (az Ui (az abg (az abj aV))) aW
def abk:An:=(.s [.n,(.s [(.s [(.j false ⟨[B],[(49,.lf B)],[.dead,.dead]⟩ .n)]),(.s [(.s [.n,(.l true 0 ⟨[I],[(5,.lf I)],[.dead,.dead]⟩ ⟨[],[],[.dead,.dead]⟩ (.s [.n,(.s [(.s [(.j false ⟨[B],[(70,.lf B)],[.dead,.dead]⟩ .n)])])]))]),(.s [(.s [.n,(.l true 2 ⟨[I],[(6,.lf I)],[.dead,.dead]⟩ ⟨[],[],[.dead,.dead]⟩ (.s [.n,(.s [(.s [(.j false ⟨[B],[(91,.lf B)],[.dead,.dead]⟩ .n)])])]))]),(.s [(.s [.n,(.l true 4 ⟨[I],[(7,.lf I)],[.dead,.dead]⟩ ⟨[],[],[.dead,.dead]⟩ (.s [.n,(.s [(.s [.n,(.s [(.j false ⟨[B],[(132,.lf B)],[.dead,.dead]⟩ .n)])])])]))])])])])])])
def abl:b7 GT:=⟨133,[.lf lN,.lf r9],[lN,r9],[I],fun x=>LM x.1 x.2⟩
theorem abm:abl.Ok E0 hp sp.ge:=aD abk (fun x=>by kernel_rfl) aV aW
def a77:An:= .n
def c77:b7 GT:=⟨77,[.lf lN,.lf r9],[lN,r9],[I],fun x=>WB x.1 x.2⟩
theorem k77:c77.Ok E0 hp sp.ge:=aD a77 (fun x=>by kernel_rfl) (az k69 (az abm aV)) aW
def a50:An:= .n
def c50:b7 GT:=⟨50,[.lf ij,.lf r9],[ij,r9],[I],fun x=>Tr x.1 x.2⟩
theorem k50:c50.Ok E0 hp sp.ge:=aD a50 (fun x=>by kernel_rfl) (az k44 (az k45 (az k77 aV))) aW
def a93:An:=(.s [.n,(.s [.n,(.s [(.s [.n,(.l false 0 ⟨[I,(.list B)],[(5,.own 2),(6,.lf I)],[.dead,.dead,.bg .nil B]⟩ ⟨[(.list B)],[(5,.own 2)],[.dead,.dead,.bg .nil B]⟩ .n)])])])])
def c93:b7 GT:=⟨93,[.lf lN,.lf r9],[lN,r9],[(.list B)],fun x=>WE x.1 x.2⟩
theorem k93:c93.Ok E0 hp sp.ge:=aD a93 (fun x=>by kernel_rfl) aV aW
def a51:An:=(.s [.n,(.s [.n,(.s [.n,(.s [(.s [.n,(.l false 0 ⟨[I,(.list I)],[(7,.own 2),(8,.lf I)],[.dead,.dead,.bg .nil I]⟩ ⟨[(.list I)],[(7,.own 2)],[.dead,.dead,.bg .nil I]⟩ (.s [.n,(.s [(.s [.n,(.j false ⟨[(.list I)],[(7,.own 2)],[.dead,.dead,.bg .nil I]⟩ .n)])])]))])])])])])
def c51:b7 GT:=⟨51,[.lf ij,.lf r9],[ij,r9],[(.list I)],fun x=>Ts x.1 x.2⟩
theorem k51:c51.Ok E0 hp sp.ge:=aD a51 (fun x=>by kernel_rfl) (az k45 (az k93 (az XE aV))) aW
def a18:An:= .n
def c18:b7 GT:=⟨18,[.lf ij,.lf r9],[ij,r9],[I,I],fun x=>XF x.1 x.2⟩
theorem k18:c18.Ok E0 hp sp.ge:=aD a18 (fun x=>by kernel_rfl) (az k50 (az k51 aV)) aW
def a20:An:= .n
def c20:b7 GT:=⟨20,[.lf ij,.lf r9],[ij,r9],[(.list I),I],fun x=>XH x.1 x.2⟩
theorem k20:c20.Ok E0 hp sp.ge:=aD a20 (fun x=>by kernel_rfl) (az k50 (az k51 aV)) aW
def a21:An:=(.s [.n,(.s [.n,(.s [(.s [.n,(.l true 0 ⟨[I],[(13,.lf I)],[]⟩ ⟨[],[],[]⟩ .n)])])])])
def c21:b7 GT:=⟨21,[.lf (.list I),.lf (.list I)],[(.list I),(.list I)],[B],fun x=>WY x.1 x.2⟩
theorem k21:c21.Ok E0 hp sp.ge:=aD a21 (fun x=>by kernel_rfl) aV aW
def a4:An:=(.s [.n,(.s [(.s [(.j false ⟨[B],[(20,.lf B)],[.dead,.dead]⟩ .n)]),(.s [.n,(.s [.n,(.s [.n,(.s [.n,(.s [(.j false ⟨[B],[(4,.lf B)],[.dead,.dead]⟩ .n)])])])])])])])
def c4:b7 GT:=⟨4,[.lf ij,.lf r9],[ij,r9],[B],fun x=>m4 x.1 x.2⟩
theorem k4:c4.Ok E0 hp sp.ge:=aD a4 (fun x=>by kernel_rfl) (az k15 (az k16 (az k11 (az k17 (az k18 (az k19 (az k20 (az k21 aV)))))))) aW
end cQ
