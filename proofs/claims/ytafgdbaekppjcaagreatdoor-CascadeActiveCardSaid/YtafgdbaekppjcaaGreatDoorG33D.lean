/- Parts of my machine and its laws, joined: G33D AmZ2 AmZ3 AmZ5 G33v G33s. No condition. -/
import Derived.Test.YtafgdbaekppjcaaGreatDoorDnL
import Derived.Test.YtafgdbaekppjcaaGreatDoorAmZk
import Derived.Test.YtafgdbaekppjcaaGreatDoorAmHx
import Derived.Test.YtafgdbaekppjcaaGreatDoorG33M
import Derived.ProofKit
import Derived.ChangeArms
import Derived.Test.YtafgdbaekppjcaaGreatDoorRows
set_option linter.unusedSectionVars false
set_option linter.unusedVariables false
set_option linter.unusedSimpArgs false
section
namespace cK
open Go hiding Obj mark
open Go.Pl Go.Am Go.Am.As oZ
def nU (x:bQ):List AV:=[.int .i64 x.ai,.bool x.Out]
def wG (x:bX):List AV:=[.ro (x.af.map nU),.int .i64 x.dz]
def iw (x:aa):List AV:=[.int .i64 x.U,.ro (x.Steps.map wG)]
def vo (x:cP):List AV:=[.ro (x.Ends.map (fun n=>[AV.int .i64 n])),.ro (x.kN.map (fun b=>[AV.bool b])),.ro (x.aC.map (fun b=>[AV.bool b])),.ro (x.cL.map (fun b=>[AV.bool b])),.ro (x.bz.map (fun n=>[AV.int .i64 n]))]
mutual
def p7:aj->List AV
 | ⟨x0,x1,x2⟩=>[.int .i64 x0,.int .i64 x1,.ro (vD x2)]
def vD:List aj->List (List AV)
 | []=>[]
 | x::l=>p7 x::vD l
end
theorem uC:∀ l:List aj,vD l=l.map p7
 | []=>rfl
 | x::l=>by rw [vD,uC l];rfl
def xI (x:aK):List AV:=[.str x.Name,.int .i64 x.Kind]++p7 x.On++p7 x.kS++[.int .i64 x.fk,.bool x.Init]
def tU (x:ax):List AV:=[.int .i64 x.U,.ro (x.aC.map (fun b=>[AV.str b])),.ro (x.ah.map xI),.ro (x.bT.map (fun n=>[AV.int .i64 n])),.ro (x.aZ.map (fun n=>[AV.int .i64 n]))]
def LA (x:kz):List AV:=iw x.S++[.ro (x.bz.map (fun n=>[AV.int .i64 n]))]
def Ae (x:lI):List AV:=iw x.f_s++[.ro (x.yj.map (fun n=>[AV.int .i64 n])),.ro (x.rX.map (fun n=>[AV.int .i64 n])),.ro (x.DJ.map (fun n=>[AV.int .i64 n])),.ro (x.HJ.map (fun n=>[AV.int .i64 n]))]++tU x.f_c
abbrev I:=Ty.int .i64
abbrev B:=Ty.bool
abbrev S:=Ty.str
abbrev WE:=Ty.st 0
abbrev oP:=Ty.st 1
abbrev sn:=Ty.st 2
abbrev Jv:=Ty.st 3
abbrev dw:=Ty.st 4
abbrev dS:=Ty.st 5
abbrev yI:=Ty.st 6
abbrev N4:=Ty.st 8
abbrev abm:=Ty.st 11
def GT:Nat->Type
 | 0=>bQ
 | 1=>bX
 | 2=>aa
 | 3=>cP
 | 4=>aj
 | 5=>aK
 | 6=>ax
 | 8=>kz
 | 11=>lI
 | _=>Unit
def gft:Nat->List Ty
 | 0=>[I,B]
 | 1=>[(.list WE),I]
 | 2=>[I,(.list oP)]
 | 3=>[(.list I),(.list B),(.list B),(.list B),(.list I)]
 | 4=>[I,I,(.list dw)]
 | 5=>[S,I,dw,dw,I,B]
 | 6=>[I,(.list S),(.list dS),(.list I),(.list I)]
 | 8=>[sn,(.list I)]
 | 11=>[sn,(.list I),(.list I),(.list I),(.list I),yI]
 | _=>[]
def gn:Nat->Nat
 | 0=>2
 | 1=>2
 | 2=>2
 | 3=>5
 | 4=>3
 | 5=>10
 | 6=>5
 | 8=>3
 | 11=>11
 | _=>0
def gto:(i:Nat)->GT i->DL GT (gft i)
 | 0,(x:bQ)=>(x.ai,x.Out)
 | 1,(x:bX)=>(x.af,x.dz)
 | 2,(x:aa)=>(x.U,x.Steps)
 | 3,(x:cP)=>(x.Ends,x.kN,x.aC,x.cL,x.bz)
 | 4,(x:aj)=>(x.Op,x.Index,x.aq)
 | 5,(x:aK)=>(x.Name,x.Kind,x.On,x.kS,x.fk,x.Init)
 | 6,(x:ax)=>(x.U,x.aC,x.ah,x.bT,x.aZ)
 | 7,_=>()
 | 8,(x:kz)=>(x.S,x.bz)
 | 9,_=>()
 | 10,_=>()
 | 11,(x:lI)=>(x.f_s,x.yj,x.rX,x.DJ,x.HJ,x.f_c)
 | _+12,_=>()
def gof:(i:Nat)->DL GT (gft i)->GT i
 | 0,w=>(⟨w.1,w.2⟩:bQ)
 | 1,w=>(⟨w.1,w.2⟩:bX)
 | 2,w=>(⟨w.1,w.2⟩:aa)
 | 3,w=>(⟨w.1,w.2.1,w.2.2.1,w.2.2.2.1,w.2.2.2.2⟩:cP)
 | 4,w=>(⟨w.1,w.2.1,w.2.2⟩:aj)
 | 5,w=>(⟨w.1,w.2.1,w.2.2.1,w.2.2.2.1,w.2.2.2.2.1,w.2.2.2.2.2⟩:aK)
 | 6,w=>(⟨w.1,w.2.1,w.2.2.1,w.2.2.2.1,w.2.2.2.2⟩:ax)
 | 7,_=>()
 | 8,w=>(⟨w.1,w.2⟩:kz)
 | 9,_=>()
 | 10,_=>()
 | 11,w=>(⟨w.1,w.2.1,w.2.2.1,w.2.2.2.1,w.2.2.2.2.1,w.2.2.2.2.2⟩:lI)
 | _+12,_=>()
def TQ:(i:Nat)->GT i->List AV
 | 0,x=>nU x
 | 1,x=>wG x
 | 2,x=>iw x
 | 3,x=>vo x
 | 4,x=>p7 x
 | 5,x=>xI x
 | 6,x=>tU x
 | 7,_=>[]
 | 8,x=>LA x
 | 9,_=>[]
 | 10,_=>[]
 | 11,x=>Ae x
 | _+12,_=>[]
def sp:Sp GT:=⟨gn,gft,gto,gof,TQ⟩
theorem adS:mR nU 2:=⟨fun _=>rfl,fun _=>rfl,fun _=>rfl⟩
theorem adT:mR wG 2:=⟨fun _=>rfl,fun _=>rfl,fun _=>rfl⟩
theorem adU:mR iw 2:=⟨fun _=>rfl,fun _=>rfl,fun _=>rfl⟩
theorem adV:mR vo 5:=⟨fun _=>rfl,fun _=>rfl,fun _=>rfl⟩
theorem adW:mR xI 10:=⟨fun x=>by obtain ⟨x0,x1,x2,x3,x4,x5⟩:=x;cases x2;cases x3;rfl,fun x=>by obtain ⟨x0,x1,x2,x3,x4,x5⟩:=x;cases x2;cases x3;rfl,fun x=>by obtain ⟨x0,x1,x2,x3,x4,x5⟩:=x;cases x2;cases x3;rfl⟩
theorem adX:mR tU 5:=⟨fun _=>rfl,fun _=>rfl,fun _=>rfl⟩
theorem adY:mR LA 3:=⟨fun _=>rfl,fun _=>rfl,fun _=>rfl⟩
theorem ZC:mR Ae 11:=⟨fun _=>rfl,fun _=>rfl,fun _=>rfl⟩
theorem Vp:∀ i,mR (TQ i) (gn i)
 | 0=>adS
 | 1=>adT
 | 2=>adU
 | 3=>adV
 | 4=>⟨fun x=>by cases x;rfl,fun x=>by cases x;rfl,fun x=>by cases x;rfl⟩
 | 5=>adW
 | 6=>adX
 | 7=>⟨fun _=>rfl,fun _=>rfl,fun _=>rfl⟩
 | 8=>adY
 | 9=>⟨fun _=>rfl,fun _=>rfl,fun _=>rfl⟩
 | 10=>⟨fun _=>rfl,fun _=>rfl,fun _=>rfl⟩
 | 11=>ZC
 | _+12=>⟨fun _=>rfl,fun _=>rfl,fun _=>rfl⟩
theorem adZ:∀ i x,TQ i x=qP sp.ge (gft i) (gto i x)
 | 0,_=>rfl
 | 1,_=>rfl
 | 2,_=>rfl
 | 3,_=>rfl
 | 4,x=>by
  have x0:aj:=x
  cases x with | mk=>exact (by show p7 _=_;rw [p7,uC];rfl)
 | 5,x=>by
  have x0:aK:=x;obtain ⟨x0,x1,x2,x3,x4,x5⟩:=x;cases x2;cases x3;rfl
 | 6,_=>rfl
 | 7,_=>rfl
 | 8,_=>rfl
 | 9,_=>rfl
 | 10,_=>rfl
 | 11,_=>rfl
 | _+12,_=>rfl
theorem ZD:∀ i w,gto i (gof i w)=w
 | 0,_=>rfl
 | 1,_=>rfl
 | 2,_=>rfl
 | 3,_=>rfl
 | 4,_=>rfl
 | 5,_=>rfl
 | 6,_=>rfl
 | 7,_=>rfl
 | 8,_=>rfl
 | 9,_=>rfl
 | 10,_=>rfl
 | 11,_=>rfl
 | _+12,_=>rfl
theorem ZE:sp.Ok:=⟨Vp,adZ,ZD⟩
theorem ZF:sp.ge.Wk
 | 0,_=>rfl
 | 1,_=>rfl
 | 2,_=>rfl
 | 3,_=>rfl
 | 4,x=>by cases x;rfl
 | 5,x=>by obtain ⟨x0,x1,x2,x3,x4,x5⟩:=x;cases x2;cases x3;rfl
 | 6,_=>rfl
 | 7,_=>rfl
 | 8,_=>rfl
 | 9,_=>rfl
 | 10,_=>rfl
 | 11,_=>rfl
 | _+12,_=>rfl
def EG (F:Nat->Option RF):Env:={ fns:=F,aJ:=G0 }
def XG (F:Nat->Option RF) (C:List (j3 GT)) (CH:List (eZ GT)) (K:List (Nat×List AV×AV)):Cx GT:=⟨sp.ge,G0,F,hp,C,CH,K⟩
theorem xok {F:Nat->Option RF} {C:List (j3 GT)} {CH:List (eZ GT)} {K:List (Nat×List AV×AV)} (h:∀ c∈C,c.Ok (EG F) hp sp.ge) (hH:∀ c∈CH,c.Ok (EG F) hp sp.ge) (hK:∀ p∈K,Pt (EG F) hp p.1 p.2.1 p.2.2):(XG F C CH K).Ok (EG F):=⟨Sp.Ze ZE,ZF,rfl,rfl,h,hH,hK⟩
def KP (F:Nat->Option RF) (C:List (j3 GT)) (CM:List (ey GT)) (CH:List (eZ GT)) (K:List (Nat×List AV×AV)) (c:j3 GT) (a:An):Prop:=∀ x,(match F c.f with | some rf=>Tv (XG F C CH K) CM 6 rf c.args c.ts c.rs a x | none=>none)=c.m x
theorem HK {F:Nat->Option RF} {C:List (j3 GT)} {CM:List (ey GT)} {CH:List (eZ GT)} {K:List (Nat×List AV×AV)} {c:j3 GT} {a:An} (h:KP F C CM CH K c a) (hC:∀ c∈C,c.Ok (EG F) hp sp.ge) (hM:∀ c∈CM,c.Ok (EG F) hp sp.ge) (hH:∀ c∈CH,c.Ok (EG F) hp sp.ge) (hK:∀ p∈K,Pt (EG F) hp p.1 p.2.1 p.2.2):c.Ok (EG F) hp sp.ge:=by
 intro x r hr;have h:=(h x).trans hr;split at h
 ·rename_i rf hf;exact P0 (xok hC hH hK) hM hf h
 ·cases h
def LC (F:Nat->Option RF) (C:List (j3 GT)) (CM:List (ey GT)) (CH:List (eZ GT)) (K:List (Nat×List AV×AV)) (c:ey GT) (a:An):Prop:=∀ x,(match F c.f with | some rf=>Ks (XG F C CH K) CM 6 rf c.args c.ts c.t a x | none=>none)=c.m x
theorem Nu {F:Nat->Option RF} {C:List (j3 GT)} {CM:List (ey GT)} {CH:List (eZ GT)} {K:List (Nat×List AV×AV)} {c:ey GT} {a:An} (h:LC F C CM CH K c a) (hC:∀ c∈C,c.Ok (EG F) hp sp.ge) (hM:∀ c∈CM,c.Ok (EG F) hp sp.ge) (hH:∀ c∈CH,c.Ok (EG F) hp sp.ge) (hK:∀ p∈K,Pt (EG F) hp p.1 p.2.1 p.2.2):c.Ok (EG F) hp sp.ge:=by
 intro x r hr hne;have h:=(h x).trans hr;split at h
 ·rename_i rf hf;exact MG (xok hC hH hK) hM hf h hne
 ·cases h
def LD (F:Nat->Option RF) (C:List (j3 GT)) (CM:List (ey GT)) (CH:List (eZ GT)) (K:List (Nat×List AV×AV)) (c:eZ GT) (a:An):Prop:=∀ x,(match F c.f with | some rf=>Kr (XG F C CH K) CM 6 rf c.i c.ts c.o1 c.o2 a x | none=>none)=c.m x
theorem Nv {F:Nat->Option RF} {C:List (j3 GT)} {CM:List (ey GT)} {CH:List (eZ GT)} {K:List (Nat×List AV×AV)} {c:eZ GT} {a:An} (h:LD F C CM CH K c a) (hC:∀ c∈C,c.Ok (EG F) hp sp.ge) (hM:∀ c∈CM,c.Ok (EG F) hp sp.ge) (hH:∀ c∈CH,c.Ok (EG F) hp sp.ge) (hK:∀ p∈K,Pt (EG F) hp p.1 p.2.1 p.2.2):c.Ok (EG F) hp sp.ge:=by
 intro x u hu;have h:=(h x).trans hu;split at h
 ·rename_i rf hf;exact MF (xok hC hH hK) hM hf h
 ·cases h
theorem aD {C:List (j3 GT)} {CM:List (ey GT)} {c:j3 GT} (a:An) (h:KP fns C CM [] [] c a) (hC:∀ c∈C,c.Ok E0 hp sp.ge) (hM:∀ c∈CM,c.Ok E0 hp sp.ge):c.Ok E0 hp sp.ge:=HK (F:=fns) h hC hM nofun nofun
theorem qW {C:List (j3 GT)} {CM:List (ey GT)} {CH:List (eZ GT)} {K:List (Nat×List AV×AV)} {c:j3 GT} (a:An) (h:KP fns C CM CH K c a) (hC:∀ c∈C,c.Ok E0 hp sp.ge) (hM:∀ c∈CM,c.Ok E0 hp sp.ge) (hH:∀ c∈CH,c.Ok E0 hp sp.ge) (hK:∀ p∈K,Pt E0 hp p.1 p.2.1 p.2.2):c.Ok E0 hp sp.ge:=HK (F:=fns) h hC hM hH hK
theorem Pq {C:List (j3 GT)} {CM:List (ey GT)} {c:ey GT} (a:An) (h:LC fns C CM [] [] c a) (hC:∀ c∈C,c.Ok E0 hp sp.ge) (hM:∀ c∈CM,c.Ok E0 hp sp.ge):c.Ok E0 hp sp.ge:=Nu (F:=fns) h hC hM nofun nofun
theorem iO {C:List (j3 GT)} {CM:List (ey GT)} {CH:List (eZ GT)} {K:List (Nat×List AV×AV)} {c:eZ GT} (a:An) (h:LD fns C CM CH K c a) (hC:∀ c∈C,c.Ok E0 hp sp.ge) (hM:∀ c∈CM,c.Ok E0 hp sp.ge) (hH:∀ c∈CH,c.Ok E0 hp sp.ge) (hK:∀ p∈K,Pt E0 hp p.1 p.2.1 p.2.2):c.Ok E0 hp sp.ge:=Nv (F:=fns) h hC hM hH hK
theorem jc:∀ c∈([]:List (eZ GT)),c.Ok E0 hp sp.ge:=nofun
theorem mP {c:eZ GT} {C:List (eZ GT)} (h:c.Ok E0 hp sp.ge) (hC:∀ c∈C,c.Ok E0 hp sp.ge):∀ d∈c::C,d.Ok E0 hp sp.ge:=fun d hd=>by
 rcases zam.1 hd with rfl | hd
 ·exact h
 ·exact hC d hd
theorem sA:∀ p∈([]:List (Nat×List AV×AV)),Pt E0 hp p.1 p.2.1 p.2.2:=nofun
theorem Kf {p:Nat×List AV×AV} {K:List (Nat×List AV×AV)} (h:Pt E0 hp p.1 p.2.1 p.2.2) (hK:∀ p∈K,Pt E0 hp p.1 p.2.1 p.2.2):∀ d∈p::K,Pt E0 hp d.1 d.2.1 d.2.2:=fun d hd=>by
 rcases zam.1 hd with rfl | hd
 ·exact h
 ·exact hK d hd
theorem S8 {f:Nat} {xs:List AV} {r:AV} (h:Gc [] E0.fns (bG E0 hp [] 1000) f xs=some r) (h2:look [(f,xs,r)] f xs=some r):Pt E0 hp f xs r:=(jA.cons jA.nil h).pt h2
noncomputable def c3 (f k:Nat):C3:=match fns f with | some rf=>(yN rf.body).getD k ([],.skip,.skip) | none=>([],.skip,.skip)
theorem aX:∀ c∈([]:List (j3 GT)),c.Ok E0 hp sp.ge:=nofun
theorem az {c:j3 GT} {C:List (j3 GT)} (h:c.Ok E0 hp sp.ge) (hC:∀ c∈C,c.Ok E0 hp sp.ge):∀ d∈c::C,d.Ok E0 hp sp.ge:=fun d hd=>by
 rcases zam.1 hd with rfl | hd
 ·exact h
 ·exact hC d hd
theorem aY:∀ c∈([]:List (ey GT)),c.Ok E0 hp sp.ge:=nofun
theorem YY {c:ey GT} {C:List (ey GT)} (h:c.Ok E0 hp sp.ge) (hC:∀ c∈C,c.Ok E0 hp sp.ge):∀ d∈c::C,d.Ok E0 hp sp.ge:=fun d hd=>by
 rcases zam.1 hd with rfl | hd
 ·exact h
 ·exact hC d hd
end cK
end
section
namespace Go.Am
def Rm (R:TypeId->List AV->Prop):List Field->List AV->Prop
 | [],xs=>xs=[]
 | f::fs,xs=>∃ a b,xs=a++b/\R f.type a/\Rm R fs b
def Wj (R:List AV->Prop):Nat->List AV->Prop
 | 0,xs=>xs=[]
 | n+1,xs=>∃ a b,xs=a++b/\R a/\Wj R n b
section
variable (P:Program)
def Sh:Nat->TypeId->List AV->Prop
 | 0,_,_=>False
 | d+1,t,xs=>match P.underlying t with
  | some .bool=>∃ b,xs=[.bool b]
  | some (.int k)=>∃ n,xs=[.int k n]/\(Lit.int k n).wf=true
  | some .string=>∃ s:List UInt8,xs=[.str s]/\s.length<=maxLen
  | some (.slice e)=>∃ es,xs=[.ro es]/\es.length<=maxLen/\∀ c∈es,Sh d e c
  | some (.struct fs)=>Rm (Sh d) fs.toList xs
  | some (.array n e)=>Wj (Sh d e) n xs
  | _=>False
theorem xE:∀ (a b:List AV),AV.aT 0 a=true->AV.aT 0 b=true->AV.aT 0 (a++b)=true
 | [],_,_,hb=>hb
 | y::a,b,ha,hb=>by
  simp only [AV.aT,za0,zaH] at ha ⊢;exact ⟨ha.1,xE a b ha.2 hb⟩
theorem DB {S:TypeId->List AV->Prop} (hS:∀ t xs,S t xs->AV.aT 0 xs=true):∀ (fs:List Field) (xs:List AV),Rm S fs xs->AV.aT 0 xs=true
 | [],xs,h=>by simp only [Rm] at h;subst h;rfl
 | f::fs,xs,h=>by
  simp only [Rm] at h;obtain ⟨a,b,rfl,h1,h2⟩:=h;exact xE a b (hS _ _ h1) (DB hS fs b h2)
theorem DC {S:List AV->Prop} (hS:∀ xs,S xs->AV.aT 0 xs=true):∀ (n:Nat) (xs:List AV),Wj S n xs->AV.aT 0 xs=true
 | 0,xs,h=>by simp only [Wj] at h;subst h;rfl
 | n+1,xs,h=>by
  simp only [Wj] at h;obtain ⟨a,b,rfl,h1,h2⟩:=h;exact xE a b (hS _ h1) (DC hS n b h2)
theorem Bz:∀ (D:Nat) (t:TypeId) (xs:List AV),Sh P D t xs->AV.aT 0 xs=true
 | 0,_,_,h=>by simp [Sh] at h
 | D+1,t,xs,h=>by
  simp only [Sh] at h;split at h
  ·obtain ⟨b,rfl⟩:=h;rfl
  ·obtain ⟨n,rfl,_⟩:=h;rfl
  ·obtain ⟨s,rfl,_⟩:=h;rfl
  ·obtain ⟨es,rfl,_⟩:=h;rfl
  ·exact DB (Bz D) _ _ h
  ·exact DC (Bz D _) _ _ h
  ·exact h.elim
def GG:Nat->List Field->Bool
 | _,[]=>true
 | off,f::fs=>f.offset==off&&GG (off+P.cellsOf f.type) fs
def Cw:List Field->Nat
 | []=>0
 | f::fs=>P.cellsOf f.type+Cw fs
def gJ:Nat->TypeId->Bool
 | 0,_=>false
 | d+1,t=>match P.underlying t with
  | some .bool=>P.cellsOf t==1
  | some (.int _)=>P.cellsOf t==1
  | some .string=>P.cellsOf t==1
  | some (.slice e)=>P.cellsOf t==1&&gJ d e
  | some (.struct fs)=>GG P 0 fs.toList&&(Cw P fs.toList==P.cellsOf t)&&fs.toList.all fun f=>gJ d f.type
  | some (.array n e)=>P.cellsOf t==n*P.cellsOf e&&gJ d e
  | _=>false
def base (w:World):Ctx:=⟨w,fun _=>False,id,id,[]⟩
def Vs (c:Ctx) (xs:List AV) (cs:List Value):Prop:=xs.length=cs.length/\∀ i (h:i < xs.length) (h':i < cs.length),V c xs[i] cs[i]
theorem Vs.app {c:Ctx} {xs ys:List AV} {cs ds:List Value} (h:Vs c xs cs) (h':Vs c ys ds):Vs c (xs++ys) (cs++ds):=by
 refine ⟨by simp [h.1,h'.1],fun i h1 h2=>?_⟩;by_cases hi:i < xs.length
 ·rw [zaM hi,zaM (by rw [<-h.1];exact hi)];exact h.2 i hi _
 ·rw [zaP (by omega),zaP (by rw [<-h.1];omega)];have:=h'.2 (i - xs.length) (by simp at h1;omega) (by simp at h2;have:=h.1;omega);simp only [<-h.1];exact this
theorem Vs.one {c:Ctx} {x:AV} {v:Value} (h:V c x v):Vs c [x] [v]:=by
 refine ⟨rfl,fun i h1 h2=>?_⟩;have:i=0:=by simp at h1;omega
 subst this;exact h
variable {P} {H:Type} {enc:TypeId×Value->H} {W:World}
theorem QO {a:Addr} {m j:Nat} {v:Value} (h:W.cell? ((a.add m).add j)=some v):W.cell? ⟨a.block,a.off+m+j,none⟩=some v/\(m+j=0->a.spot=none):=by
 have hs:∀ b:Addr,W.cell? b=some v->b.spot=none:=by
  intro b hb;unfold World.cell? at hb;split at hb
  ·split at hb
   ·simp at hb
   ·rename_i h1;simpa using h1
  ·simp at hb
 have h0:=hs _ h;have e:(a.add m).add j=⟨a.block,a.off+m+j,none⟩:=by
  cases a with
  | mk b o s=>
   unfold Addr.add at h0 ⊢;by_cases hm:m=0<;>by_cases hj:j=0<;>simp_all
 refine ⟨by rw [<-e];exact h,fun hz=>?_⟩;have hm:m=0:=by omega
 have hj:j=0:=by omega
 subst hm;subst hj;simpa [Addr.add] using h0
theorem vC:∀ (D:Nat) (t:TypeId),gJ P D t=true->∀ (fuel:Nat) (cs:List Value) (x:DataW H×List MemPlace),
 DataW.trod enc P W 0 (fun _=>true) true fuel t cs=some x->cs.length=P.cellsOf t/\∃ xs,Sh P D t xs/\Vs (base W) xs cs
 | 0,t,h=>by simp [gJ] at h
 | D+1,t,h=>by
  intro fuel cs x hx;simp only [gJ] at h;simp only [Sh];split at h
  ·rename_i hu;obtain ⟨b,rfl,_⟩:=DataW.trod_bool hu hx;simp only [beq_iff_eq] at h;exact ⟨by simp [h],[.bool b],⟨b,rfl⟩,Vs.one (.bool b)⟩
  ·rename_i k hu;obtain ⟨n,rfl,_,hw⟩:=DataW.trod_int hu hx;simp only [beq_iff_eq] at h;exact ⟨by simp [h],[.int k n],⟨n,rfl,hw⟩,Vs.one (.int k n)⟩
  ·rename_i hu;obtain ⟨s,rfl,_,hl⟩:=DataW.trod_string hu hx;simp only [beq_iff_eq] at h;have vG:s.data.toList.length=s.size:=Array.length_toList;exact ⟨by simp [h],[.str s.data.toList],⟨_,rfl,by rw [vG];exact hl⟩,Vs.one (.str s.data.toList)⟩
  ·rename_i e hu;simp only [za0,beq_iff_eq] at h;rcases DataW.trod_slice hu hx with ⟨rfl,_⟩ | ⟨a,len,cap,elems,rest,n,rfl,rfl,_,_,hlc,hcm,Ia,aP,_,_⟩
   ·exact ⟨by simp [h.1],[.ro []],⟨[],rfl,zaJ _,fun c hc=>by simp at hc⟩,Vs.one .B0⟩
   ·have key:∀ i,i < len->∃ ys:List Value,∃ es:List AV,W.cells? 0 (a.add (i*P.cellsOf e)) (P.cellsOf e)=some ys/\Sh P D e es/\Vs (base W) es ys:=by
     intro i hi;have h1:=aP i hi;rw [za2 (by omega)] at h1;obtain ⟨ys,h2,h3⟩:=zba.1 h1;obtain ⟨_,es,h4,h5⟩:=vC D e h.2 n ys _ h3;exact ⟨ys,es,h2,h4,h5⟩
    let g:Nat->List Value:=fun i=>if hi:i < len then Classical.choose (key i hi) else []
    let f:Nat->List AV:=fun i=>if hi:i < len then Classical.choose (Classical.choose_spec (key i hi)) else []
    have hg:∀ i,i < len->W.cells? 0 (a.add (i*P.cellsOf e)) (P.cellsOf e)=some (g i)/\Sh P D e (f i)/\Vs (base W) (f i) (g i):=by
     intro i hi;have:=Classical.choose_spec (Classical.choose_spec (key i hi));simp only [g,f,hi,dif_pos];exact this
    have hc:∀ i,i < len->(g i).length=P.cellsOf e/\∀ j,j < P.cellsOf e->W.cell? ⟨a.block,a.off+i*P.cellsOf e+j,none⟩=some ((g i).getD j undef)/\(i*P.cellsOf e+j=0->a.spot=none):=by
     intro i hi;obtain ⟨_,h2,h3⟩:=World.cells?_some (hg i hi).1;refine ⟨h2,fun j hj=>?_⟩;have h4:=h3 j hj;have hj':j < (g i).length:=by omega
     rw [za2 hj'] at h4;have h5:=QO h4;simp only [List.getD,za2 hj',zar];exact h5
    have hlen:((List.range len).map f).length=len:=by simp
    refine ⟨by simp [h.1],[.ro ((List.range len).map f)],⟨_,rfl,by rw [hlen];omega,fun c hm=>?_⟩,Vs.one ?_⟩
    ·obtain ⟨i,hi,rfl⟩:=zbv.1 hm;exact (hg i (by simpa using hi)).2.1
    ·have hV:=V.ro (c:=base W) ((List.range len).map f) a cap (P.cellsOf e) (fun i j=>(g i).getD j undef) (fun i j hi hj=>by
      have hi':i < len:=by simpa using hi
      have V6:((List.range len).map f)[i]=f i:=by simp
      have Er:=Bz P D e _ (hg i hi').2.1;have hj':j < (f i).length:=by rw [<-V6];exact hj
      have:=cO Er j hj';simpa [V6] using this) (by rw [hlen];exact hlc) (fun hne hz=>⟨?_,fun h=>h⟩) (fun i hi=>?_) (fun i j hi hj=>?_) (fun i j hi hj=>?_)
     ·rw [hlen] at hV;exact hV
     ·have h0:0 < len:=by
       rcases Nat.eq_zero_or_pos len with e0 | e0
       ·subst e0;simp at hne
       ·exact e0
      exact ((hc 0 h0).2 0 hz).2 (by simp)
     ·have hi':i < len:=by simpa using hi
      simp only [zax,zaX];rw [(hg i hi').2.2.1,(hc i hi').1]
     ·have hi':i < len:=by simpa using hi
      simp only [zax,zaX] at hj;rw [(hg i hi').2.2.1,(hc i hi').1] at hj;exact ((hc i hi').2 j hj).1
     ·have hi':i < len:=by simpa using hi
      simp only [zax,zaX] at hj ⊢;have hj':j < (g i).length:=by rw [<-(hg i hi').2.2.1];exact hj
      have:=(hg i hi').2.2.2 j hj hj';simpa [List.getD,hj'] using this
  ·rename_i fs hu;simp only [za0,beq_iff_eq,zai] at h;obtain ⟨⟨adL,hsum⟩,hall⟩:=h;obtain ⟨xs,n,rfl,_,j4,hxl,aP⟩:=DataW.trod_struct hu hx;refine ⟨j4,?_⟩;have key:∀ (l:List Field) (off k:Nat),(∀ i f,l[i]?=some f->fs[k+i]?=some f)->GG P off l=true->off+Cw P l=cs.length->(∀ f∈l,gJ P D f.type=true)->
    ∃ ys,Rm (Sh P D) l ys/\Vs (base W) ys (cs.drop off):=by
    intro l;induction l with
    | nil=>
     intro off k _ _ hs _;refine ⟨[],rfl,?_⟩;simp only [Cw,zbt] at hs;rw [hs,List.drop_length];exact ⟨rfl,fun i h1=>by simp at h1⟩
    | cons f l ih=>
     intro off k hk hl hs hp;simp only [GG,za0,beq_iff_eq] at hl;simp only [Cw] at hs;have hf:=aP k f (by have:=hk 0 f rfl;simpa using this);have hkx:k < xs.length:=by
      rw [hxl];have:=hk 0 f rfl;exact (zbz.1 this).1
     rw [za2 hkx] at hf;obtain ⟨_,ys,y1,y2⟩:=vC D f.type (hp f (by simp)) n _ _ hf;obtain ⟨zs,z1,z2⟩:=ih (off+P.cellsOf f.type) (k+1) (fun i f' hi=>by have:=hk (i+1) f' (by simpa using hi);rw [<-this];congr 1;omega) hl.2 (by omega) (fun f' hf'=>hp f' (by simp [hf']));refine ⟨ys++zs,⟨ys,zs,rfl,y1,z1⟩,?_⟩;have e1:cs.drop off=(cs.drop f.offset).take (P.cellsOf f.type)++cs.drop (off+P.cellsOf f.type):=by
      rw [hl.1,<-zbG,zbL]
     rw [e1];exact y2.app z2
   obtain ⟨ys,y1,y2⟩:=key fs.toList 0 0 (fun i f hi=>by simpa using hi) adL (by omega) (fun f hf=>hall f hf);exact ⟨ys,y1,by simpa using y2⟩
  ·rename_i n e hu;simp only [za0,beq_iff_eq] at h;have hinv:cs.length=P.cellsOf t/\∃ m,fuel=m+1/\∀ i,i < n->∃ y,DataW.trod enc P W 0 (fun _=>true) true m e ((cs.drop (i*P.cellsOf e)).take (P.cellsOf e))=some y:=by
    cases fuel with
    | zero=>simp [DataW.trod] at hx
    | succ m=>
     unfold DataW.trod at hx;rw [hu] at hx;split at hx<;>simp_all;obtain ⟨Gd,ys,hp,_⟩:=hx;refine fun i hi=>?_
     have hl:=mapM_some_length hp;have h2:=mapM_some_get hp i i (by simp [hi]);simp at hl;rw [za2 (by omega)] at h2;exact ⟨ys[i].1,ys[i].2,h2⟩
   obtain ⟨j4,m,rfl,aP⟩:=hinv;refine ⟨j4,?_⟩;have key:∀ (k off:Nat),off+k=n->∃ ys,Wj (Sh P D e) k ys/\Vs (base W) ys (cs.drop (off*P.cellsOf e)):=by
    intro k;induction k with
    | zero=>
     intro off ho;refine ⟨[],rfl,?_⟩;have:off*P.cellsOf e=cs.length:=by rw [j4,h.1];congr 1
     rw [this,List.drop_length];exact ⟨rfl,fun i h1=>by simp at h1⟩
    | succ k ih=>
     intro off ho;obtain ⟨y,hy⟩:=aP off (by omega);obtain ⟨_,ys,y1,y2⟩:=vC D e h.2 m _ _ hy;obtain ⟨zs,z1,z2⟩:=ih (off+1) (by omega);refine ⟨ys++zs,⟨ys,zs,rfl,y1,z1⟩,?_⟩;have e1:cs.drop (off*P.cellsOf e)=(cs.drop (off*P.cellsOf e)).take (P.cellsOf e)++cs.drop ((off+1)*P.cellsOf e):=by
      rw [zaw,zaT,<-zbG,zbL]
     rw [e1];exact y2.app z2
   obtain ⟨ys,y1,y2⟩:=key n 0 (by omega);exact ⟨ys,y1,by simpa using y2⟩
  ·simp at h
def Ir (P:Program) (t:TypeId):Bool:=match P.underlying t with
 | some (.struct _)=>true
 | some (.array _ _)=>true
 | _=>false
def W9 (P:Program) (D:Nat) (t:TypeId) (x:AV):Prop:=if Ir P t then ∃ xs,x= .agg xs/\Sh P D t xs else Sh P D t [x]
theorem Nm {D:Nat} {t:TypeId} (hp:gJ P D t=true) {v:Value} {b:Nat} (hok:Value.okWide P W .any b t v) {d:DataW H} {ps:List MemPlace}
 (h:DataW.Trod enc P W 0 (fun _=>true) true t v d ps):∃ x,W9 P D t x/\V (base W) x v:=by
 obtain ⟨fuel,hf⟩:=h;obtain ⟨hlen,xs,h1,h2⟩:=vC D t hp fuel _ _ hf;unfold W9;by_cases ha:Ir P t=true
 ·simp only [ha,if_true];have adM:∃ cs,v= .agg cs:=by
   unfold Ir at ha;unfold Value.okWide at hok;split at ha
   ·rename_i hu;rw [hu] at hok;obtain ⟨cs,rfl,_⟩:=hok;exact ⟨cs,rfl⟩
   ·rename_i hu;rw [hu] at hok;obtain ⟨cs,rfl,_⟩:=hok;exact ⟨cs,rfl⟩
   ·simp at ha
  obtain ⟨cs,rfl⟩:=adM;refine ⟨.agg xs,⟨xs,rfl,h1⟩,.agg xs cs ?_ fun i hi hj=>?_⟩
  ·have:=h2.1;simpa [Value.cells] using this.symm
  ·have:=h2.2 i hi (by simpa [Value.cells] using hj);simpa [Value.cells] using this
 ·simp only [Bool.not_eq_true] at ha;simp only [ha,za8,if_false];have hone:P.cellsOf t=1:=by
   cases D with
   | zero=>simp [gJ] at hp
   | succ D=>
    simp only [gJ] at hp;unfold Ir at ha;split at hp<;>simp_all
  have hvs:∃ u,v.cells.toList=[u]:=by
   rw [hone] at hlen;exact zaU.1 hlen
  obtain ⟨u,hu⟩:=hvs;have hvu:v=u:=by
   cases v with
   | agg cs=>
    exfalso;unfold Value.okWide at hok;unfold Ir at ha
    cases D with
    | zero=>simp [gJ] at hp
    | succ D=>
     simp only [gJ] at hp;split at hp;all_goals rename_i Xa
     all_goals first
      | (rw [Xa] at ha;simp at ha;done)
      | (rw [Xa] at hok;simp [Cell.okWide,Xa,Cell.ok] at hok;done)
      | (simp at hp;done)
   | _=>simpa [Value.cells] using hu
  subst hvu;rw [hu] at h2;obtain ⟨x,rfl⟩:∃ x,xs=[x]:=zaU.1 (by rw [h2.1];rfl);exact ⟨x,h1,h2.2 0 (by simp) (by simp)⟩
end
end Go.Am
end
section
namespace Go.Am
open Go.ChangeShapes Go.WideShapes Go.RowKit
def OZ (P:Program) (D:Nat):List TypeId->List AV->Prop
 | [],[]=>True
 | t::ts,x::xs=>W9 P D t x/\OZ P D ts xs
 | _,_=>False
section
variable {P:Program} {H:Type} {enc:TypeId×Value->H} {W:World}
theorem HD {D:Nat} {b:Nat}:∀ (ts:List TypeId) (vs:List Value) (ds:List (DataW H)) (ps:List MemPlace),DataW.TrodAll enc P W 0 (fun _=>true) true ts vs ds ps->
 (∀ t∈ts,gJ P D t=true)->(∀ (j:Nat) t v,ts[j]?=some t->vs[j]?=some v->Value.okWide P W .any b t v)->
 ∃ xs,OZ P D ts xs/\vs.length=xs.length/\ds.length=ts.length/\∀ i (hi:i < xs.length) (hj:i < vs.length),V (base W) xs[i] vs[i]
 | [],[],[],_,_,_,_=>⟨[],trivial,rfl,rfl,fun i hi=>by simp at hi⟩
 | t::ts,v::vs,d::ds,ps,h,hp,hok=>by
  obtain ⟨p,q,h1,h2,_⟩:=h;obtain ⟨x,x1,x2⟩:=Nm (hp t (by simp)) (hok 0 t v rfl rfl) h1;obtain ⟨xs,y1,y2,y3,y4⟩:=HD ts vs ds q h2 (fun t' ht=>hp t' (by simp [ht])) (fun j t' v' hj hv=>hok (j+1) t' v' (by simpa using hj) (by simpa using hv));refine ⟨x::xs,⟨x1,y1⟩,by simp [y2],by simp [y3],fun i hi hj=>?_⟩
  cases i with
  | zero=>exact x2
  | succ i=>exact y4 i (by simpa using hi) (by simpa using hj)
theorem pz (hl:laidOutB P=true) {W':World} {sp':Nat->Bool}:∀ (ts:List TypeId) (vs:List Value) (ds:List (DataW H)) (ps:List MemPlace),DataW.TrodAll enc P W 0 (fun _=>true) true ts vs ds ps->
 (∀ t∈ts,P.readableRec t=true/\t < P.types.size)->(∀ p∈ps,W.sameAt W' p)->(∀ p∈ps,sp' p.block=true)->DataW.TrodAll enc P W' 0 sp' true ts vs ds ps
 | [],[],[],_,h,_,_,_=>h
 | t::ts,v::vs,d::ds,ps,h,ht,hs,hp=>by
  obtain ⟨p,q,h1,h2,rfl⟩:=h;refine ⟨p,q,WideElems.Trod_stays hl (ht t (by simp)).1 (ht t (by simp)).2 h1 (fun x hx=>hs x (by simp [hx])) (fun x hx=>hp x (by simp [hx])),?_,rfl⟩;exact pz hl ts vs ds q h2 (fun t' h'=>ht t' (by simp [h'])) (fun x hx=>hs x (by simp [hx])) (fun x hx=>hp x (by simp [hx]))
theorem No {f:Func} {s:ChangeSpec} {apart fresh handsOn again:Bool} {W':World} {args:Array Value} {ds:List (DataW H)} {before:List MemPlace} {tb:TypeId}
 (hW:DataW.Whole enc P f.params.toList s.vars apart W args.toList ds [] before) (hvars:s.vars=[]) (hr:f.resultTypes=#[tb]) (htb:P.underlying tb=some .bool) (hl:laidOutB P=true)
 (hT:∀ t∈f.params.toList,P.readableRec t=true/\t < P.types.size) (Jo:dx W W') (hsz:W.heap.size<=W'.heap.size) (EF:∀ b,b < W.heap.size->W'.heap[b]?=W.heap[b]?)
 (hspec:(s.fn H (ds++[])).results=[.lit (.bool true)]/\(s.fn H (ds++[])).args=ds/\(s.fn H (ds++[])).vars=[]):
 s.post enc P f apart fresh handsOn again W args (.bool true) W':=by
 have hW':=hW;obtain ⟨p,q,hA,hV,rfl,hfz,EA⟩:=hW';rw [hvars] at hV;obtain ⟨_,rfl⟩:=trodVars_none hV;have hb:Below W.heap.size W W':=⟨Jo.os,Jo.tape,Jo.output,hsz,EF⟩;refine post_of_same (pa:=p) (pv:=[]) hW (fun b sp hd=>?_) (fun sp hsp=>?_) (fun sp _=>?_) rfl (hb.frame _) Jo.ua
  (ok_one hr rfl (okWide_bool_mk htb true))
 ·rw [hspec.1,hr];exact trodAll_mk1 (shut_bool htb true)
 ·rw [hspec.2.1];refine pz hl _ _ _ _ hA hT (fun x hx=>hb.same (hW.lt x (by simp [hx]))) (fun x hx=>hsp x (by simp [hx]))
 ·rw [hspec.2.2,hvars];exact rfl
theorem IZ {E:Env} {hp:Nat->Bool} (ck:iJ P E) (Zx:∀ c:Ctx,c.w=W->(∀ b,¬ c.O b)->gY c E.aJ) {f:FuncId} {fn:Func} {s:ChangeSpec} {apart fresh handsOn again:Bool} {args:Array Value}
 {ds gs:List (DataW H)} {before:List MemPlace} {tb D b:Nat}
 (hval:∀ (j:Nat) t v,fn.params[j]?=some t->args[j]?=some v->Value.okWide P W .any b t v)
 (hW:DataW.Whole enc P fn.params.toList s.vars apart W args.toList ds gs before) (hvars:s.vars=[]) (hr:fn.resultTypes=#[tb]) (htb:P.underlying tb=some .bool) (hl:laidOutB P=true)
 (hT:∀ t∈fn.params.toList,(P.readableRec t=true/\t < P.types.size)/\gJ P D t=true)
 (hspec:∀ ds:List (DataW H),ds.length=fn.params.size->(s.fn H (ds++[])).results=[.lit (.bool true)]/\(s.fn H (ds++[])).args=ds/\(s.fn H (ds++[])).vars=[])
 (adN:∀ xs,OZ P D fn.params.toList xs->Pu E hp f xs (.bool true)):
 Calls P f args W fun e W'=>∃ v,e= .returned v/\s.post enc P fn apart fresh handsOn again W args v W':=by
 have hgs:gs=[]:=by
  obtain ⟨_,_,_,hV,_⟩:=hW;rw [hvars] at hV;exact (trodVars_none hV).1
 subst hgs;obtain ⟨p,q,hA,_⟩:=id hW;obtain ⟨xs,x1,x2,x3,x4⟩:=HD (D:=D) (b:=b) _ _ _ _ hA (fun t ht=>(hT t ht).2) (fun j t v hj hv=>hval j t v (by simpa using hj) (by simpa using hv));have hc:=(adN xs x1).calls ck (c:=base W) (fun b h=>h) rfl (Zx _ rfl fun b h=>h) x2 x4;have e0:args.toList.toArray=args:=by simp
 rw [e0] at hc;refine hc.mono ?_;rintro e W' ⟨v,rfl,⟨hsz,Jo⟩,EF,_,hres⟩;have hv:=hres ⟨W',fun _=>False,id,id,[]⟩ rfl (fun b h=>h)
 cases hv;exact ⟨_,rfl,No hW hvars hr htb hl (fun t ht=>(hT t ht).1) Jo hsz EF (hspec ds (by simpa using x3))⟩
end
end Go.Am
end
section
namespace Go.Am
open Go.Am.As
def inK (k:IntKind) (n:Int):Prop:=k.min<=n/\n<=k.max
theorem Vn {k:IntKind} {n:Int} (h:(Lit.int k n).wf=true):inK k n:=by
 unfold inK;simpa [Lit.wf] using h
section
variable {P:Program} {D:Nat}
theorem A3 {t:TypeId} {k:IntKind} {xs:List AV} (hu:P.underlying t=some (.int k)) (h:Sh P (D+1) t xs):∃ n,xs=[.int k n]/\inK k n:=by
 simp only [Sh,hu] at h;obtain ⟨n,h1,h2⟩:=h;exact ⟨n,h1,Vn h2⟩
theorem G9 {t:TypeId} {xs:List AV} (hu:P.underlying t=some .bool) (h:Sh P (D+1) t xs):∃ b,xs=[.bool b]:=by
 simpa only [Sh,hu] using h
theorem Lz {α:Type} {C:α->List AV} {R:α->Prop} {S:List AV->Prop} (he:∀ c,S c->∃ a,c=C a/\R a):∀ es:List (List AV),(∀ c∈es,S c)->∃ l:List α,es=l.map C/\∀ a∈l,R a
 | [],_=>⟨[],rfl,by simp⟩
 | c::es,h=>by
  obtain ⟨a,h1,h2⟩:=he c (h c (by simp));obtain ⟨l,h3,h4⟩:=Lz he es fun c hc=>h c (by simp [hc])
  exact ⟨a::l,by simp [h1,h3],by simpa using ⟨h2,h4⟩⟩
theorem rL {α:Type} {C:α->List AV} {R:α->Prop} {t e:TypeId} {xs:List AV} (hu:P.underlying t=some (.slice e)) (h:Sh P (D+1) t xs) (he:∀ c,Sh P D e c->∃ a,c=C a/\R a):
 ∃ l:List α,xs=[.ro (l.map C)]/\l.length<=maxLen/\∀ a∈l,R a:=by
 simp only [Sh,hu] at h;obtain ⟨es,h1,h2,h3⟩:=h;obtain ⟨l,h4,h5⟩:=Lz he es h3;subst h4;exact ⟨l,h1,by simpa using h2,h5⟩
theorem qj {t:TypeId} {fs:Array Field} {f1 f2:Field} {xs:List AV} (hu:P.underlying t=some (.struct fs)) (hf:fs.toList=[f1,f2]) (h:Sh P (D+1) t xs):
 ∃ a b,xs=a++b/\Sh P D f1.type a/\Sh P D f2.type b:=by
 simp only [Sh,hu,hf,Rm] at h;obtain ⟨a,c,h1,h2,b,d,h3,h4,h5⟩:=h;subst h5;subst h3;exact ⟨a,b,by simpa using h1,h2,h4⟩
theorem HI {t:TypeId} {x:AV} (ha:Ir P t=true) (h:W9 P D t x):∃ xs,x= .agg xs/\Sh P D t xs:=by simpa [W9,ha] using h
end
end Go.Am
end
section
namespace cK
open Go.Proofs Go Go.Pl Go.Am Go.Am.As
theorem PK {P:Program} {hs:List (Nat×Hint)} {n:Nat} {fn:Func} {rf:RF} (h:zl P hs n fn=some rf):rf.nargs=n:=by
 unfold zl at h;split at h
 ·split at h
  ·cases h
  ·injection h with h;subst h;rfl
 ·cases h
theorem UB (P:Program) (H:Nat->List (Nat×Hint)) {G:Nat->List AV} (hG:∀ g,AV.aT 0 (G g)=true):iJ P { fns:=Gu P H,aJ:=G }:=by
 refine ⟨fun f rf h=>?_,hG⟩;have h:Gu P H f=some rf:=h;unfold Gu at h
 cases hfn:P.funcs[f]? with
 | none=>rw [hfn] at h;cases h
 | some fn=>
  rw [hfn] at h;exact ⟨fn,H f,rfl,by rw [PK h];exact h⟩
theorem UC:iJ Tryz.prog E0:=UB Tryz.prog hs (fun g=>by show AV.aT 0 (if g=0 then _ else _)=true;split<;>rfl)
end cK
end
section
namespace cK
set_option maxRecDepth 100000
open Go.Proofs Go Go.Pl Go.Am Go.Am.As
theorem IL {D:Nat} {xs:List AV} (h:Sh Tryz.prog (D+2) 66 xs):∃ y:bQ,xs=nU y:=by
 obtain ⟨x,y,rfl,h1,h2⟩:=qj Tryz.underlying66 rfl h;obtain ⟨n,rfl,_⟩:=A3 Tryz.underlying3 h1;obtain ⟨b,rfl⟩:=G9 Tryz.underlying4 h2;exact ⟨⟨n,b⟩,rfl⟩
theorem Qc {D:Nat} {xs:List AV} (h:Sh Tryz.prog (D+4) 75 xs):∃ x:bX,xs=wG x:=by
 obtain ⟨x,y,rfl,h1,h2⟩:=qj Tryz.underlying75 rfl h;obtain ⟨l,rfl,_,_⟩:=rL (C:=nU) (R:=fun _=>True) Tryz.underlying59 h1 (fun c hc=>by
  obtain ⟨y,h⟩:=IL hc;exact ⟨y,h,trivial⟩)
 obtain ⟨n,rfl,_⟩:=A3 Tryz.underlying3 h2;exact ⟨⟨l,n⟩,rfl⟩
theorem U0 {D:Nat} {xs:List AV} (h:Sh Tryz.prog (D+6) 24 xs):∃ s:aa,xs=iw s:=by
 obtain ⟨x,y,rfl,h1,h2⟩:=qj Tryz.underlying24 rfl h;obtain ⟨n,rfl,_⟩:=A3 Tryz.underlying3 h1;obtain ⟨l,rfl,_,_⟩:=rL (C:=wG) (R:=fun _:bX=>True) Tryz.underlying22 h2 (fun c hc=>by
  obtain ⟨x,h⟩:=Qc hc;exact ⟨x,h,trivial⟩)
 exact ⟨⟨n,l⟩,rfl⟩
theorem FA {P:Program} {D:Nat} {t:TypeId} {fs:Array Field} {f1 f2 f3 f4 f5:Field} {xs:List AV} (hu:P.underlying t=some (.struct fs)) (hf:fs.toList=[f1,f2,f3,f4,f5]) (h:Sh P (D+1) t xs):
 ∃ a b c d e,xs=a++(b++(c++(d++e)))/\Sh P D f1.type a/\Sh P D f2.type b/\Sh P D f3.type c/\Sh P D f4.type d/\Sh P D f5.type e:=by
 simp only [Sh,hu,hf,Rm] at h;obtain ⟨a,_,h1,h2,b,_,h3,h4,c,_,h5,h6,d,_,h7,h8,e,_,h9,ha,hb⟩:=h;subst hb;subst h9;subst h7;subst h5;subst h3;exact ⟨a,b,c,d,e,by simpa using h1,h2,h4,h6,h8,ha⟩
theorem He {D:Nat} {xs:List AV} (h:Sh Tryz.prog (D+2) 29 xs):∃ l:List Int,xs=[.ro (l.map fun n=>[AV.int .i64 n])]:=by
 obtain ⟨l,rfl,_,_⟩:=rL (C:=fun n:Int=>[AV.int .i64 n]) (R:=fun _=>True) Tryz.underlying29 h (fun c hc=>by
  obtain ⟨n,h,_⟩:=A3 Tryz.underlying3 hc;exact ⟨n,h,trivial⟩)
 exact ⟨l,rfl⟩
theorem xu {D:Nat} {xs:List AV} (h:Sh Tryz.prog (D+2) 38 xs):∃ l:List Bool,xs=[.ro (l.map fun n=>[AV.bool n])]:=by
 obtain ⟨l,rfl,_,_⟩:=rL (C:=fun n:Bool=>[AV.bool n]) (R:=fun _=>True) Tryz.underlying38 h (fun c hc=>by
  obtain ⟨n,h⟩:=G9 Tryz.underlying4 hc;exact ⟨n,h,trivial⟩)
 exact ⟨l,rfl⟩
theorem MR {D:Nat} {xs:List AV} (h:Sh Tryz.prog (D+3) 40 xs):∃ x:cP,xs=vo x:=by
 obtain ⟨a,b,c,d,e,rfl,h1,h2,h3,h4,h5⟩:=FA Tryz.underlying40 rfl h;obtain ⟨a,rfl⟩:=He h1;obtain ⟨b,rfl⟩:=xu h2;obtain ⟨c,rfl⟩:=xu h3;obtain ⟨d,rfl⟩:=xu h4;obtain ⟨e,rfl⟩:=He h5;exact ⟨⟨a,b,c,d,e⟩,rfl⟩
theorem own:ownKnob Tryz.prog.godebug=none:=by kernel_rfl
theorem laidOut:laidOutB Tryz.prog=true:=by kernel_rfl
end cK
end
