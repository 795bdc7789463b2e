/- Parts of my machine and its laws, joined: G33D AmZ2 AmZ3 AmZ5 G33v G33s. No condition. -/
import Derived.Test.YtafgdbaekppjcaaGreatDoorDnL
import Derived.Test.YtafgdbaekppjcaaGreatDoorAmZk
import Derived.Test.YtafgdbaekppjcaaGreatDoorAmHx
import Derived.Test.YtafgdbaekppjcaaGreatDoorG33M
import Derived.ProofKit
import Derived.ChangeArms
import Derived.Test.YtafgdbaekppjcaaGreatDoorRows
set_option linter.unusedSectionVars false
set_option linter.unusedVariables false
set_option linter.unusedSimpArgs false
section
namespace ck
open Go hiding Obj mark
open Go.Pl Go.Am Go.Am.As oe
def nT (x:bS):List AV:=[.int .i64 x.aj,.bool x.Out]
def wG (x:cz):List AV:=[.ro (x.ah.map nT),.int .i64 x.cX]
def iB (x:af):List AV:=[.int .i64 x.U,.ro (x.Steps.map wG)]
def Jb (x:bM):List AV:=[.ro (x.Ends.map (fun n=>[AV.int .i64 n])),.ro (x.iW.map (fun b=>[AV.bool b])),.ro (x.ay.map (fun b=>[AV.bool b])),.ro (x.cu.map (fun b=>[AV.bool b])),.ro (x.aV.map (fun n=>[AV.int .i64 n]))]
mutual
def p9:ai->List AV
 | ⟨x0,x1,x2⟩=>[.int .i64 x0,.int .i64 x1,.ro (vC x2)]
def vC:List ai->List (List AV)
 | []=>[]
 | x::l=>p9 x::vC l
end
theorem uE:∀ l:List ai,vC l=l.map p9
 | []=>rfl
 | x::l=>by rw [vC,uE l];rfl
def xO (x:aS):List AV:=[.str x.Name,.int .i64 x.Kind]++p9 x.On++p9 x.jc++[.int .i64 x.dD,.bool x.Init]
def Ay (x:an):List AV:=[.int .i64 x.U,.ro (x.ay.map (fun b=>[AV.str b])),.ro (x.aa.map xO),.ro (x.bU.map (fun n=>[AV.int .i64 n])),.ro (x.aX.map (fun n=>[AV.int .i64 n]))]
def Ng (x:nF):List AV:=iB x.S++[.ro (x.aV.map (fun n=>[AV.int .i64 n]))]
def Nh (x:kF):List AV:=iB x.A0++[.int .i64 x.fu,.ro (x.eJ.map (fun n=>[AV.int .i64 n])),.ro (x.nX.map (fun n=>[AV.int .i64 n]))]
abbrev I:=Ty.int .i64
abbrev B:=Ty.bool
abbrev S:=Ty.str
abbrev Jv:=Ty.st 0
abbrev vG:=Ty.st 1
abbrev uM:=Ty.st 2
abbrev KN:=Ty.st 3
abbrev dM:=Ty.st 4
abbrev dQ:=Ty.st 5
abbrev Jw:=Ty.st 6
abbrev Yk:=Ty.st 8
abbrev qK:=Ty.st 11
def GT:Nat->Type
 | 0=>bS
 | 1=>cz
 | 2=>af
 | 3=>bM
 | 4=>ai
 | 5=>aS
 | 6=>an
 | 8=>nF
 | 11=>kF
 | _=>Unit
def gft:Nat->List Ty
 | 0=>[I,B]
 | 1=>[(.list Jv),I]
 | 2=>[I,(.list vG)]
 | 3=>[(.list I),(.list B),(.list B),(.list B),(.list I)]
 | 4=>[I,I,(.list dM)]
 | 5=>[S,I,dM,dM,I,B]
 | 6=>[I,(.list S),(.list dQ),(.list I),(.list I)]
 | 8=>[uM,(.list I)]
 | 11=>[uM,I,(.list I),(.list I)]
 | _=>[]
def gn:Nat->Nat
 | 0=>2
 | 1=>2
 | 2=>2
 | 3=>5
 | 4=>3
 | 5=>10
 | 6=>5
 | 8=>3
 | 11=>5
 | _=>0
def gto:(i:Nat)->GT i->DL GT (gft i)
 | 0,(x:bS)=>(x.aj,x.Out)
 | 1,(x:cz)=>(x.ah,x.cX)
 | 2,(x:af)=>(x.U,x.Steps)
 | 3,(x:bM)=>(x.Ends,x.iW,x.ay,x.cu,x.aV)
 | 4,(x:ai)=>(x.Op,x.Index,x.au)
 | 5,(x:aS)=>(x.Name,x.Kind,x.On,x.jc,x.dD,x.Init)
 | 6,(x:an)=>(x.U,x.ay,x.aa,x.bU,x.aX)
 | 7,_=>()
 | 8,(x:nF)=>(x.S,x.aV)
 | 9,_=>()
 | 10,_=>()
 | 11,(x:kF)=>(x.A0,x.fu,x.eJ,x.nX)
 | _+12,_=>()
def gof:(i:Nat)->DL GT (gft i)->GT i
 | 0,w=>(⟨w.1,w.2⟩:bS)
 | 1,w=>(⟨w.1,w.2⟩:cz)
 | 2,w=>(⟨w.1,w.2⟩:af)
 | 3,w=>(⟨w.1,w.2.1,w.2.2.1,w.2.2.2.1,w.2.2.2.2⟩:bM)
 | 4,w=>(⟨w.1,w.2.1,w.2.2⟩:ai)
 | 5,w=>(⟨w.1,w.2.1,w.2.2.1,w.2.2.2.1,w.2.2.2.2.1,w.2.2.2.2.2⟩:aS)
 | 6,w=>(⟨w.1,w.2.1,w.2.2.1,w.2.2.2.1,w.2.2.2.2⟩:an)
 | 7,_=>()
 | 8,w=>(⟨w.1,w.2⟩:nF)
 | 9,_=>()
 | 10,_=>()
 | 11,w=>(⟨w.1,w.2.1,w.2.2.1,w.2.2.2⟩:kF)
 | _+12,_=>()
def VQ:(i:Nat)->GT i->List AV
 | 0,x=>nT x
 | 1,x=>wG x
 | 2,x=>iB x
 | 3,x=>Jb x
 | 4,x=>p9 x
 | 5,x=>xO x
 | 6,x=>Ay x
 | 7,_=>[]
 | 8,x=>Ng x
 | 9,_=>[]
 | 10,_=>[]
 | 11,x=>Nh x
 | _+12,_=>[]
def sp:Sp GT:=⟨gn,gft,gto,gof,VQ⟩
theorem aeE:mZ nT 2:=⟨fun _=>rfl,fun _=>rfl,fun _=>rfl⟩
theorem aeF:mZ wG 2:=⟨fun _=>rfl,fun _=>rfl,fun _=>rfl⟩
theorem aeG:mZ iB 2:=⟨fun _=>rfl,fun _=>rfl,fun _=>rfl⟩
theorem aeH:mZ Jb 5:=⟨fun _=>rfl,fun _=>rfl,fun _=>rfl⟩
theorem aeI:mZ xO 10:=⟨fun x=>by obtain ⟨x0,x1,x2,x3,x4,x5⟩:=x;cases x2;cases x3;rfl,fun x=>by obtain ⟨x0,x1,x2,x3,x4,x5⟩:=x;cases x2;cases x3;rfl,fun x=>by obtain ⟨x0,x1,x2,x3,x4,x5⟩:=x;cases x2;cases x3;rfl⟩
theorem aeJ:mZ Ay 5:=⟨fun _=>rfl,fun _=>rfl,fun _=>rfl⟩
theorem aeK:mZ Ng 3:=⟨fun _=>rfl,fun _=>rfl,fun _=>rfl⟩
theorem abz:mZ Nh 5:=⟨fun _=>rfl,fun _=>rfl,fun _=>rfl⟩
theorem Xy:∀ i,mZ (VQ i) (gn i)
 | 0=>aeE
 | 1=>aeF
 | 2=>aeG
 | 3=>aeH
 | 4=>⟨fun x=>by cases x;rfl,fun x=>by cases x;rfl,fun x=>by cases x;rfl⟩
 | 5=>aeI
 | 6=>aeJ
 | 7=>⟨fun _=>rfl,fun _=>rfl,fun _=>rfl⟩
 | 8=>aeK
 | 9=>⟨fun _=>rfl,fun _=>rfl,fun _=>rfl⟩
 | 10=>⟨fun _=>rfl,fun _=>rfl,fun _=>rfl⟩
 | 11=>abz
 | _+12=>⟨fun _=>rfl,fun _=>rfl,fun _=>rfl⟩
theorem aeL:∀ i x,VQ i x=qW sp.ge (gft i) (gto i x)
 | 0,_=>rfl
 | 1,_=>rfl
 | 2,_=>rfl
 | 3,_=>rfl
 | 4,x=>by
  have x0:ai:=x
  cases x with | mk=>exact (by show p9 _=_;rw [p9,uE];rfl)
 | 5,x=>by
  have x0:aS:=x;obtain ⟨x0,x1,x2,x3,x4,x5⟩:=x;cases x2;cases x3;rfl
 | 6,_=>rfl
 | 7,_=>rfl
 | 8,_=>rfl
 | 9,_=>rfl
 | 10,_=>rfl
 | 11,_=>rfl
 | _+12,_=>rfl
theorem abA:∀ i w,gto i (gof i w)=w
 | 0,_=>rfl
 | 1,_=>rfl
 | 2,_=>rfl
 | 3,_=>rfl
 | 4,_=>rfl
 | 5,_=>rfl
 | 6,_=>rfl
 | 7,_=>rfl
 | 8,_=>rfl
 | 9,_=>rfl
 | 10,_=>rfl
 | 11,_=>rfl
 | _+12,_=>rfl
theorem abB:sp.Ok:=⟨Xy,aeL,abA⟩
theorem abC:sp.ge.Wk
 | 0,_=>rfl
 | 1,_=>rfl
 | 2,_=>rfl
 | 3,_=>rfl
 | 4,x=>by cases x;rfl
 | 5,x=>by obtain ⟨x0,x1,x2,x3,x4,x5⟩:=x;cases x2;cases x3;rfl
 | 6,_=>rfl
 | 7,_=>rfl
 | 8,_=>rfl
 | 9,_=>rfl
 | 10,_=>rfl
 | 11,_=>rfl
 | _+12,_=>rfl
def EG (F:Nat->Option RF):Env:={ fns:=F,aF:=G0 }
def XG (F:Nat->Option RF) (C:List (gS GT)) (CH:List (eR GT)) (K:List (Nat×List AV×AV)):Cx GT:=⟨sp.ge,G0,F,hp,C,CH,K⟩
theorem xok {F:Nat->Option RF} {C:List (gS GT)} {CH:List (eR GT)} {K:List (Nat×List AV×AV)} (h:∀ c∈C,c.Ok (EG F) hp sp.ge) (hH:∀ c∈CH,c.Ok (EG F) hp sp.ge) (hK:∀ p∈K,Pt (EG F) hp p.1 p.2.1 p.2.2):(XG F C CH K).Ok (EG F):=⟨Sp.abb abB,abC,rfl,rfl,h,hH,hK⟩
def Mq (F:Nat->Option RF) (C:List (gS GT)) (CM:List (dG GT)) (CH:List (eR GT)) (K:List (Nat×List AV×AV)) (c:gS GT) (a:An):Prop:=∀ x,(match F c.f with | some rf=>Vt (XG F C CH K) CM 6 rf c.args c.ts c.rs a x | none=>none)=c.m x
theorem Jc {F:Nat->Option RF} {C:List (gS GT)} {CM:List (dG GT)} {CH:List (eR GT)} {K:List (Nat×List AV×AV)} {c:gS GT} {a:An} (h:Mq F C CM CH K c a) (hC:∀ c∈C,c.Ok (EG F) hp sp.ge) (hM:∀ c∈CM,c.Ok (EG F) hp sp.ge) (hH:∀ c∈CH,c.Ok (EG F) hp sp.ge) (hK:∀ p∈K,Pt (EG F) hp p.1 p.2.1 p.2.2):c.Ok (EG F) hp sp.ge:=by
 intro x r hr;have h:=(h x).trans hr;split at h
 ·rename_i rf hf;exact R2 (xok hC hH hK) hM hf h
 ·cases h
def Ni (F:Nat->Option RF) (C:List (gS GT)) (CM:List (dG GT)) (CH:List (eR GT)) (K:List (Nat×List AV×AV)) (c:dG GT) (a:An):Prop:=∀ x,(match F c.f with | some rf=>LZ (XG F C CH K) CM 6 rf c.args c.ts c.t a x | none=>none)=c.m x
theorem PG {F:Nat->Option RF} {C:List (gS GT)} {CM:List (dG GT)} {CH:List (eR GT)} {K:List (Nat×List AV×AV)} {c:dG GT} {a:An} (h:Ni F C CM CH K c a) (hC:∀ c∈C,c.Ok (EG F) hp sp.ge) (hM:∀ c∈CM,c.Ok (EG F) hp sp.ge) (hH:∀ c∈CH,c.Ok (EG F) hp sp.ge) (hK:∀ p∈K,Pt (EG F) hp p.1 p.2.1 p.2.2):c.Ok (EG F) hp sp.ge:=by
 intro x r hr hne;have h:=(h x).trans hr;split at h
 ·rename_i rf hf;exact OH (xok hC hH hK) hM hf h hne
 ·cases h
def Nj (F:Nat->Option RF) (C:List (gS GT)) (CM:List (dG GT)) (CH:List (eR GT)) (K:List (Nat×List AV×AV)) (c:eR GT) (a:An):Prop:=∀ x,(match F c.f with | some rf=>LY (XG F C CH K) CM 6 rf c.i c.ts c.o1 c.o2 a x | none=>none)=c.m x
theorem PI {F:Nat->Option RF} {C:List (gS GT)} {CM:List (dG GT)} {CH:List (eR GT)} {K:List (Nat×List AV×AV)} {c:eR GT} {a:An} (h:Nj F C CM CH K c a) (hC:∀ c∈C,c.Ok (EG F) hp sp.ge) (hM:∀ c∈CM,c.Ok (EG F) hp sp.ge) (hH:∀ c∈CH,c.Ok (EG F) hp sp.ge) (hK:∀ p∈K,Pt (EG F) hp p.1 p.2.1 p.2.2):c.Ok (EG F) hp sp.ge:=by
 intro x u hu;have h:=(h x).trans hu;split at h
 ·rename_i rf hf;exact OG (xok hC hH hK) hM hf h
 ·cases h
theorem aH {C:List (gS GT)} {CM:List (dG GT)} {c:gS GT} (a:An) (h:Mq fns C CM [] [] c a) (hC:∀ c∈C,c.Ok E0 hp sp.ge) (hM:∀ c∈CM,c.Ok E0 hp sp.ge):c.Ok E0 hp sp.ge:=Jc (F:=fns) h hC hM nofun nofun
theorem kI {C:List (gS GT)} {CM:List (dG GT)} {CH:List (eR GT)} {K:List (Nat×List AV×AV)} {c:gS GT} (a:An) (h:Mq fns C CM CH K c a) (hC:∀ c∈C,c.Ok E0 hp sp.ge) (hM:∀ c∈CM,c.Ok E0 hp sp.ge) (hH:∀ c∈CH,c.Ok E0 hp sp.ge) (hK:∀ p∈K,Pt E0 hp p.1 p.2.1 p.2.2):c.Ok E0 hp sp.ge:=Jc (F:=fns) h hC hM hH hK
theorem oo {C:List (gS GT)} {CM:List (dG GT)} {c:dG GT} (a:An) (h:Ni fns C CM [] [] c a) (hC:∀ c∈C,c.Ok E0 hp sp.ge) (hM:∀ c∈CM,c.Ok E0 hp sp.ge):c.Ok E0 hp sp.ge:=PG (F:=fns) h hC hM nofun nofun
theorem iN {C:List (gS GT)} {CM:List (dG GT)} {CH:List (eR GT)} {K:List (Nat×List AV×AV)} {c:eR GT} (a:An) (h:Nj fns C CM CH K c a) (hC:∀ c∈C,c.Ok E0 hp sp.ge) (hM:∀ c∈CM,c.Ok E0 hp sp.ge) (hH:∀ c∈CH,c.Ok E0 hp sp.ge) (hK:∀ p∈K,Pt E0 hp p.1 p.2.1 p.2.2):c.Ok E0 hp sp.ge:=PI (F:=fns) h hC hM hH hK
theorem ic:∀ c∈([]:List (eR GT)),c.Ok E0 hp sp.ge:=nofun
theorem mV {c:eR GT} {C:List (eR GT)} (h:c.Ok E0 hp sp.ge) (hC:∀ c∈C,c.Ok E0 hp sp.ge):∀ d∈c::C,d.Ok E0 hp sp.ge:=fun d hd=>by
 rcases zad.1 hd with rfl | hd
 ·exact h
 ·exact hC d hd
theorem oX:∀ p∈([]:List (Nat×List AV×AV)),Pt E0 hp p.1 p.2.1 p.2.2:=nofun
theorem HF {p:Nat×List AV×AV} {K:List (Nat×List AV×AV)} (h:Pt E0 hp p.1 p.2.1 p.2.2) (hK:∀ p∈K,Pt E0 hp p.1 p.2.1 p.2.2):∀ d∈p::K,Pt E0 hp d.1 d.2.1 d.2.2:=fun d hd=>by
 rcases zad.1 hd with rfl | hd
 ·exact h
 ·exact hK d hd
theorem U9 {f:Nat} {xs:List AV} {r:AV} (h:Hw [] E0.fns (bG E0 hp [] 1000) f xs=some r) (h2:look [(f,xs,r)] f xs=some r):Pt E0 hp f xs r:=(jz.cons jz.nil h).pt h2
noncomputable def c3 (f k:Nat):C3:=match fns f with | some rf=>(yV rf.body).getD k ([],.skip,.skip) | none=>([],.skip,.skip)
theorem bh:∀ c∈([]:List (gS GT)),c.Ok E0 hp sp.ge:=nofun
theorem az {c:gS GT} {C:List (gS GT)} (h:c.Ok E0 hp sp.ge) (hC:∀ c∈C,c.Ok E0 hp sp.ge):∀ d∈c::C,d.Ok E0 hp sp.ge:=fun d hd=>by
 rcases zad.1 hd with rfl | hd
 ·exact h
 ·exact hC d hd
theorem bk:∀ c∈([]:List (dG GT)),c.Ok E0 hp sp.ge:=nofun
theorem uh {c:dG GT} {C:List (dG GT)} (h:c.Ok E0 hp sp.ge) (hC:∀ c∈C,c.Ok E0 hp sp.ge):∀ d∈c::C,d.Ok E0 hp sp.ge:=fun d hd=>by
 rcases zad.1 hd with rfl | hd
 ·exact h
 ·exact hC d hd
end ck
end
section
namespace Go.Am
def UK (R:TypeId->List AV->Prop):List Field->List AV->Prop
 | [],xs=>xs=[]
 | f::fs,xs=>∃ a b,xs=a++b/\R f.type a/\UK R fs b
def Yi (R:List AV->Prop):Nat->List AV->Prop
 | 0,xs=>xs=[]
 | n+1,xs=>∃ a b,xs=a++b/\R a/\Yi R n b
section
variable (P:Program)
def Sh:Nat->TypeId->List AV->Prop
 | 0,_,_=>False
 | d+1,t,xs=>match P.underlying t with
  | some .bool=>∃ b,xs=[.bool b]
  | some (.int k)=>∃ n,xs=[.int k n]/\(Lit.int k n).wf=true
  | some .string=>∃ s:List UInt8,xs=[.str s]/\s.length<=maxLen
  | some (.slice e)=>∃ es,xs=[.ro es]/\es.length<=maxLen/\∀ c∈es,Sh d e c
  | some (.struct fs)=>UK (Sh d) fs.toList xs
  | some (.array n e)=>Yi (Sh d e) n xs
  | _=>False
theorem xJ:∀ (a b:List AV),AV.aR 0 a=true->AV.aR 0 b=true->AV.aR 0 (a++b)=true
 | [],_,_,hb=>hb
 | y::a,b,ha,hb=>by
  simp only [AV.aR,za0,zaM] at ha ⊢;exact ⟨ha.1,xJ a b ha.2 hb⟩
theorem Ee {S:TypeId->List AV->Prop} (hS:∀ t xs,S t xs->AV.aR 0 xs=true):∀ (fs:List Field) (xs:List AV),UK S fs xs->AV.aR 0 xs=true
 | [],xs,h=>by simp only [UK] at h;subst h;rfl
 | f::fs,xs,h=>by
  simp only [UK] at h;obtain ⟨a,b,rfl,h1,h2⟩:=h;exact xJ a b (hS _ _ h1) (Ee hS fs b h2)
theorem Ef {S:List AV->Prop} (hS:∀ xs,S xs->AV.aR 0 xs=true):∀ (n:Nat) (xs:List AV),Yi S n xs->AV.aR 0 xs=true
 | 0,xs,h=>by simp only [Yi] at h;subst h;rfl
 | n+1,xs,h=>by
  simp only [Yi] at h;obtain ⟨a,b,rfl,h1,h2⟩:=h;exact xJ a b (hS _ h1) (Ef hS n b h2)
theorem B5:∀ (D:Nat) (t:TypeId) (xs:List AV),Sh P D t xs->AV.aR 0 xs=true
 | 0,_,_,h=>by simp [Sh] at h
 | D+1,t,xs,h=>by
  simp only [Sh] at h;split at h
  ·obtain ⟨b,rfl⟩:=h;rfl
  ·obtain ⟨n,rfl,_⟩:=h;rfl
  ·obtain ⟨s,rfl,_⟩:=h;rfl
  ·obtain ⟨es,rfl,_⟩:=h;rfl
  ·exact Ee (B5 D) _ _ h
  ·exact Ef (B5 D _) _ _ h
  ·exact h.elim
def HW:Nat->List Field->Bool
 | _,[]=>true
 | off,f::fs=>f.offset==off&&HW (off+P.cellsOf f.type) fs
def C9:List Field->Nat
 | []=>0
 | f::fs=>P.cellsOf f.type+C9 fs
def gG:Nat->TypeId->Bool
 | 0,_=>false
 | d+1,t=>match P.underlying t with
  | some .bool=>P.cellsOf t==1
  | some (.int _)=>P.cellsOf t==1
  | some .string=>P.cellsOf t==1
  | some (.slice e)=>P.cellsOf t==1&&gG d e
  | some (.struct fs)=>HW P 0 fs.toList&&(C9 P fs.toList==P.cellsOf t)&&fs.toList.all fun f=>gG d f.type
  | some (.array n e)=>P.cellsOf t==n*P.cellsOf e&&gG d e
  | _=>false
def base (w:World):Ctx:=⟨w,fun _=>False,id,id,[]⟩
def Vs (c:Ctx) (xs:List AV) (cs:List Value):Prop:=xs.length=cs.length/\∀ i (h:i < xs.length) (h':i < cs.length),V c xs[i] cs[i]
theorem Vs.app {c:Ctx} {xs ys:List AV} {cs ds:List Value} (h:Vs c xs cs) (h':Vs c ys ds):Vs c (xs++ys) (cs++ds):=by
 refine ⟨by simp [h.1,h'.1],fun i h1 h2=>?_⟩;by_cases hi:i < xs.length
 ·rw [zaU hi,zaU (by rw [<-h.1];exact hi)];exact h.2 i hi _
 ·rw [zaQ (by omega),zaQ (by rw [<-h.1];omega)];have:=h'.2 (i - xs.length) (by simp at h1;omega) (by simp at h2;have:=h.1;omega);simp only [<-h.1];exact this
theorem Vs.one {c:Ctx} {x:AV} {v:Value} (h:V c x v):Vs c [x] [v]:=by
 refine ⟨rfl,fun i h1 h2=>?_⟩;have:i=0:=by simp at h1;omega
 subst this;exact h
variable {P} {H:Type} {enc:TypeId×Value->H} {W:World}
theorem SO {a:Addr} {m j:Nat} {v:Value} (h:W.cell? ((a.add m).add j)=some v):W.cell? ⟨a.block,a.off+m+j,none⟩=some v/\(m+j=0->a.spot=none):=by
 have hs:∀ b:Addr,W.cell? b=some v->b.spot=none:=by
  intro b hb;unfold World.cell? at hb;split at hb
  ·split at hb
   ·simp at hb
   ·rename_i h1;simpa using h1
  ·simp at hb
 have h0:=hs _ h;have e:(a.add m).add j=⟨a.block,a.off+m+j,none⟩:=by
  cases a with
  | mk b o s=>
   unfold Addr.add at h0 ⊢;by_cases hm:m=0<;>by_cases hj:j=0<;>simp_all
 refine ⟨by rw [<-e];exact h,fun hz=>?_⟩;have hm:m=0:=by omega
 have hj:j=0:=by omega
 subst hm;subst hj;simpa [Addr.add] using h0
theorem vA:∀ (D:Nat) (t:TypeId),gG P D t=true->∀ (fuel:Nat) (cs:List Value) (x:DataW H×List MemPlace),
 DataW.trod enc P W 0 (fun _=>true) true fuel t cs=some x->cs.length=P.cellsOf t/\∃ xs,Sh P D t xs/\Vs (base W) xs cs
 | 0,t,h=>by simp [gG] at h
 | D+1,t,h=>by
  intro fuel cs x hx;simp only [gG] at h;simp only [Sh];split at h
  ·rename_i hu;obtain ⟨b,rfl,_⟩:=DataW.trod_bool hu hx;simp only [beq_iff_eq] at h;exact ⟨by simp [h],[.bool b],⟨b,rfl⟩,Vs.one (.bool b)⟩
  ·rename_i k hu;obtain ⟨n,rfl,_,hw⟩:=DataW.trod_int hu hx;simp only [beq_iff_eq] at h;exact ⟨by simp [h],[.int k n],⟨n,rfl,hw⟩,Vs.one (.int k n)⟩
  ·rename_i hu;obtain ⟨s,rfl,_,hl⟩:=DataW.trod_string hu hx;simp only [beq_iff_eq] at h;have uL:s.data.toList.length=s.size:=Array.length_toList;exact ⟨by simp [h],[.str s.data.toList],⟨_,rfl,by rw [uL];exact hl⟩,Vs.one (.str s.data.toList)⟩
  ·rename_i e hu;simp only [za0,beq_iff_eq] at h;rcases DataW.trod_slice hu hx with ⟨rfl,_⟩ | ⟨a,len,cap,elems,rest,n,rfl,rfl,_,_,hlc,hcm,Qc,aL,_,_⟩
   ·exact ⟨by simp [h.1],[.ro []],⟨[],rfl,zaO _,fun c hc=>by simp at hc⟩,Vs.one .CB⟩
   ·have key:∀ i,i < len->∃ ys:List Value,∃ es:List AV,W.cells? 0 (a.add (i*P.cellsOf e)) (P.cellsOf e)=some ys/\Sh P D e es/\Vs (base W) es ys:=by
     intro i hi;have h1:=aL i hi;rw [za1 (by omega)] at h1;obtain ⟨ys,h2,h3⟩:=zbf.1 h1;obtain ⟨_,es,h4,h5⟩:=vA D e h.2 n ys _ h3;exact ⟨ys,es,h2,h4,h5⟩
    let g:Nat->List Value:=fun i=>if hi:i < len then Classical.choose (key i hi) else []
    let f:Nat->List AV:=fun i=>if hi:i < len then Classical.choose (Classical.choose_spec (key i hi)) else []
    have hg:∀ i,i < len->W.cells? 0 (a.add (i*P.cellsOf e)) (P.cellsOf e)=some (g i)/\Sh P D e (f i)/\Vs (base W) (f i) (g i):=by
     intro i hi;have:=Classical.choose_spec (Classical.choose_spec (key i hi));simp only [g,f,hi,dif_pos];exact this
    have hc:∀ i,i < len->(g i).length=P.cellsOf e/\∀ j,j < P.cellsOf e->W.cell? ⟨a.block,a.off+i*P.cellsOf e+j,none⟩=some ((g i).getD j undef)/\(i*P.cellsOf e+j=0->a.spot=none):=by
     intro i hi;obtain ⟨_,h2,h3⟩:=World.cells?_some (hg i hi).1;refine ⟨h2,fun j hj=>?_⟩;have h4:=h3 j hj;have hj':j < (g i).length:=by omega
     rw [za1 hj'] at h4;have h5:=SO h4;simp only [List.getD,za1 hj',zaz];exact h5
    have hlen:((List.range len).map f).length=len:=by simp
    refine ⟨by simp [h.1],[.ro ((List.range len).map f)],⟨_,rfl,by rw [hlen];omega,fun c hm=>?_⟩,Vs.one ?_⟩
    ·obtain ⟨i,hi,rfl⟩:=zaT.1 hm;exact (hg i (by simpa using hi)).2.1
    ·have hV:=V.ro (c:=base W) ((List.range len).map f) a cap (P.cellsOf e) (fun i j=>(g i).getD j undef) (fun i j hi hj=>by
      have hi':i < len:=by simpa using hi
      have X3:((List.range len).map f)[i]=f i:=by simp
      have JB:=B5 P D e _ (hg i hi').2.1;have hj':j < (f i).length:=by rw [<-X3];exact hj
      have:=cJ JB j hj';simpa [X3] using this) (by rw [hlen];exact hlc) (fun hne hz=>⟨?_,fun h=>h⟩) (fun i hi=>?_) (fun i j hi hj=>?_) (fun i j hi hj=>?_)
     ·rw [hlen] at hV;exact hV
     ·have h0:0 < len:=by
       rcases Nat.eq_zero_or_pos len with e0 | e0
       ·subst e0;simp at hne
       ·exact e0
      exact ((hc 0 h0).2 0 hz).2 (by simp)
     ·have hi':i < len:=by simpa using hi
      simp only [zay,zbi];rw [(hg i hi').2.2.1,(hc i hi').1]
     ·have hi':i < len:=by simpa using hi
      simp only [zay,zbi] at hj;rw [(hg i hi').2.2.1,(hc i hi').1] at hj;exact ((hc i hi').2 j hj).1
     ·have hi':i < len:=by simpa using hi
      simp only [zay,zbi] at hj ⊢;have hj':j < (g i).length:=by rw [<-(hg i hi').2.2.1];exact hj
      have:=(hg i hi').2.2.2 j hj hj';simpa [List.getD,hj'] using this
  ·rename_i fs hu;simp only [za0,beq_iff_eq,zaf] at h;obtain ⟨⟨adT,hsum⟩,hall⟩:=h;obtain ⟨xs,n,rfl,_,iT,hxl,aL⟩:=DataW.trod_struct hu hx;refine ⟨iT,?_⟩;have key:∀ (l:List Field) (off k:Nat),(∀ i f,l[i]?=some f->fs[k+i]?=some f)->HW P off l=true->off+C9 P l=cs.length->(∀ f∈l,gG P D f.type=true)->
    ∃ ys,UK (Sh P D) l ys/\Vs (base W) ys (cs.drop off):=by
    intro l;induction l with
    | nil=>
     intro off k _ _ hs _;refine ⟨[],rfl,?_⟩;simp only [C9,zb7] at hs;rw [hs,List.drop_length];exact ⟨rfl,fun i h1=>by simp at h1⟩
    | cons f l ih=>
     intro off k hk hl hs hp;simp only [HW,za0,beq_iff_eq] at hl;simp only [C9] at hs;have hf:=aL k f (by have:=hk 0 f rfl;simpa using this);have hkx:k < xs.length:=by
      rw [hxl];have:=hk 0 f rfl;exact (zaX.1 this).1
     rw [za1 hkx] at hf;obtain ⟨_,ys,y1,y2⟩:=vA D f.type (hp f (by simp)) n _ _ hf;obtain ⟨zs,z1,z2⟩:=ih (off+P.cellsOf f.type) (k+1) (fun i f' hi=>by have:=hk (i+1) f' (by simpa using hi);rw [<-this];congr 1;omega) hl.2 (by omega) (fun f' hf'=>hp f' (by simp [hf']));refine ⟨ys++zs,⟨ys,zs,rfl,y1,z1⟩,?_⟩;have e1:cs.drop off=(cs.drop f.offset).take (P.cellsOf f.type)++cs.drop (off+P.cellsOf f.type):=by
      rw [hl.1,<-zbP,zbU]
     rw [e1];exact y2.app z2
   obtain ⟨ys,y1,y2⟩:=key fs.toList 0 0 (fun i f hi=>by simpa using hi) adT (by omega) (fun f hf=>hall f hf);exact ⟨ys,y1,by simpa using y2⟩
  ·rename_i n e hu;simp only [za0,beq_iff_eq] at h;have hinv:cs.length=P.cellsOf t/\∃ m,fuel=m+1/\∀ i,i < n->∃ y,DataW.trod enc P W 0 (fun _=>true) true m e ((cs.drop (i*P.cellsOf e)).take (P.cellsOf e))=some y:=by
    cases fuel with
    | zero=>simp [DataW.trod] at hx
    | succ m=>
     unfold DataW.trod at hx;rw [hu] at hx;split at hx<;>simp_all;obtain ⟨vJ,ys,hp,_⟩:=hx;refine fun i hi=>?_
     have hl:=mapM_some_length hp;have h2:=mapM_some_get hp i i (by simp [hi]);simp at hl;rw [za1 (by omega)] at h2;exact ⟨ys[i].1,ys[i].2,h2⟩
   obtain ⟨iT,m,rfl,aL⟩:=hinv;refine ⟨iT,?_⟩;have key:∀ (k off:Nat),off+k=n->∃ ys,Yi (Sh P D e) k ys/\Vs (base W) ys (cs.drop (off*P.cellsOf e)):=by
    intro k;induction k with
    | zero=>
     intro off ho;refine ⟨[],rfl,?_⟩;have:off*P.cellsOf e=cs.length:=by rw [iT,h.1];congr 1
     rw [this,List.drop_length];exact ⟨rfl,fun i h1=>by simp at h1⟩
    | succ k ih=>
     intro off ho;obtain ⟨y,hy⟩:=aL off (by omega);obtain ⟨_,ys,y1,y2⟩:=vA D e h.2 m _ _ hy;obtain ⟨zs,z1,z2⟩:=ih (off+1) (by omega);refine ⟨ys++zs,⟨ys,zs,rfl,y1,z1⟩,?_⟩;have e1:cs.drop (off*P.cellsOf e)=(cs.drop (off*P.cellsOf e)).take (P.cellsOf e)++cs.drop ((off+1)*P.cellsOf e):=by
      rw [zaC,zb2,<-zbP,zbU]
     rw [e1];exact y2.app z2
   obtain ⟨ys,y1,y2⟩:=key n 0 (by omega);exact ⟨ys,y1,by simpa using y2⟩
  ·simp at h
def FU (P:Program) (t:TypeId):Bool:=match P.underlying t with
 | some (.struct _)=>true
 | some (.array _ _)=>true
 | _=>false
def UL (P:Program) (D:Nat) (t:TypeId) (x:AV):Prop:=if FU P t then ∃ xs,x= .agg xs/\Sh P D t xs else Sh P D t [x]
theorem PA {D:Nat} {t:TypeId} (hp:gG P D t=true) {v:Value} {b:Nat} (hok:Value.okWide P W .any b t v) {d:DataW H} {ps:List MemPlace}
 (h:DataW.Trod enc P W 0 (fun _=>true) true t v d ps):∃ x,UL P D t x/\V (base W) x v:=by
 obtain ⟨fuel,hf⟩:=h;obtain ⟨hlen,xs,h1,h2⟩:=vA D t hp fuel _ _ hf;unfold UL;by_cases ha:FU P t=true
 ·simp only [ha,if_true];have adU:∃ cs,v= .agg cs:=by
   unfold FU at ha;unfold Value.okWide at hok;split at ha
   ·rename_i hu;rw [hu] at hok;obtain ⟨cs,rfl,_⟩:=hok;exact ⟨cs,rfl⟩
   ·rename_i hu;rw [hu] at hok;obtain ⟨cs,rfl,_⟩:=hok;exact ⟨cs,rfl⟩
   ·simp at ha
  obtain ⟨cs,rfl⟩:=adU;refine ⟨.agg xs,⟨xs,rfl,h1⟩,.agg xs cs ?_ fun i hi hj=>?_⟩
  ·have:=h2.1;simpa [Value.cells] using this.symm
  ·have:=h2.2 i hi (by simpa [Value.cells] using hj);simpa [Value.cells] using this
 ·simp only [Bool.not_eq_true] at ha;simp only [ha,za9,if_false];have hone:P.cellsOf t=1:=by
   cases D with
   | zero=>simp [gG] at hp
   | succ D=>
    simp only [gG] at hp;unfold FU at ha;split at hp<;>simp_all
  have hvs:∃ u,v.cells.toList=[u]:=by
   rw [hone] at hlen;exact List.length_eq_one_iff.1 hlen
  obtain ⟨u,hu⟩:=hvs;have hvu:v=u:=by
   cases v with
   | agg cs=>
    exfalso;unfold Value.okWide at hok;unfold FU at ha
    cases D with
    | zero=>simp [gG] at hp
    | succ D=>
     simp only [gG] at hp;split at hp;all_goals rename_i YR
     all_goals first
      | (rw [YR] at ha;simp at ha;done)
      | (rw [YR] at hok;simp [Cell.okWide,YR,Cell.ok] at hok;done)
      | (simp at hp;done)
   | _=>simpa [Value.cells] using hu
  subst hvu;rw [hu] at h2;obtain ⟨x,rfl⟩:∃ x,xs=[x]:=List.length_eq_one_iff.1 (by rw [h2.1];rfl);exact ⟨x,h1,h2.2 0 (by simp) (by simp)⟩
end
end Go.Am
end
section
namespace Go.Am
open Go.ChangeShapes Go.WideShapes Go.RowKit
def Q1 (P:Program) (D:Nat):List TypeId->List AV->Prop
 | [],[]=>True
 | t::ts,x::xs=>UL P D t x/\Q1 P D ts xs
 | _,_=>False
section
variable {P:Program} {H:Type} {enc:TypeId×Value->H} {W:World}
theorem I6 {D:Nat} {b:Nat}:∀ (ts:List TypeId) (vs:List Value) (ds:List (DataW H)) (ps:List MemPlace),DataW.TrodAll enc P W 0 (fun _=>true) true ts vs ds ps->
 (∀ t∈ts,gG P D t=true)->(∀ (j:Nat) t v,ts[j]?=some t->vs[j]?=some v->Value.okWide P W .any b t v)->
 ∃ xs,Q1 P D ts xs/\vs.length=xs.length/\ds.length=ts.length/\∀ i (hi:i < xs.length) (hj:i < vs.length),V (base W) xs[i] vs[i]
 | [],[],[],_,_,_,_=>⟨[],trivial,rfl,rfl,fun i hi=>by simp at hi⟩
 | t::ts,v::vs,d::ds,ps,h,hp,hok=>by
  obtain ⟨p,q,h1,h2,_⟩:=h;obtain ⟨x,x1,x2⟩:=PA (hp t (by simp)) (hok 0 t v rfl rfl) h1;obtain ⟨xs,y1,y2,y3,y4⟩:=I6 ts vs ds q h2 (fun t' ht=>hp t' (by simp [ht])) (fun j t' v' hj hv=>hok (j+1) t' v' (by simpa using hj) (by simpa using hv));refine ⟨x::xs,⟨x1,y1⟩,by simp [y2],by simp [y3],fun i hi hj=>?_⟩
  cases i with
  | zero=>exact x2
  | succ i=>exact y4 i (by simpa using hi) (by simpa using hj)
theorem pD (hl:laidOutB P=true) {W':World} {sp':Nat->Bool}:∀ (ts:List TypeId) (vs:List Value) (ds:List (DataW H)) (ps:List MemPlace),DataW.TrodAll enc P W 0 (fun _=>true) true ts vs ds ps->
 (∀ t∈ts,P.readableRec t=true/\t < P.types.size)->(∀ p∈ps,W.sameAt W' p)->(∀ p∈ps,sp' p.block=true)->DataW.TrodAll enc P W' 0 sp' true ts vs ds ps
 | [],[],[],_,h,_,_,_=>h
 | t::ts,v::vs,d::ds,ps,h,ht,hs,hp=>by
  obtain ⟨p,q,h1,h2,rfl⟩:=h;refine ⟨p,q,WideElems.Trod_stays hl (ht t (by simp)).1 (ht t (by simp)).2 h1 (fun x hx=>hs x (by simp [hx])) (fun x hx=>hp x (by simp [hx])),?_,rfl⟩;exact pD hl ts vs ds q h2 (fun t' h'=>ht t' (by simp [h'])) (fun x hx=>hs x (by simp [hx])) (fun x hx=>hp x (by simp [hx]))
theorem Kh {f:Func} {s:ChangeSpec} {apart fresh handsOn again:Bool} {W':World} {args:Array Value} {v:Value} {ds gs:List (DataW H)} {before pa pv:List MemPlace}
 (hW:DataW.Whole enc P f.params.toList s.vars apart W args.toList ds gs before)
 (hres:∀ (b:Nat) (sp:Nat->Bool) (hd:Bool),DataW.TrodAll enc P W' b sp hd f.resultTypes.toList (v.resultList f.resultTypes.size) (s.fn H (ds++gs)).results [])
 (hargs:∀ sp:Nat->Bool,(∀ p∈before,sp p.block=true)->DataW.TrodAll enc P W' 0 sp true f.params.toList args.toList (s.fn H (ds++gs)).args pa)
 (hvars:∀ sp:Nat->Bool,(∀ p∈before,sp p.block=true)->DataW.TrodVars enc P W' sp s.vars (s.fn H (ds++gs)).vars pv)
 (hps:before=pa++pv) (hk:W.keptBut W' (·∈before)) (hfz:∀ a:Addr,a.block < W.heap.size->W'.frozen? a=W.frozen? a)
 (hok:∀ (j:Nat) (t:TypeId) (r:Value),f.resultTypes[j]?=some t->(v.resultList f.resultTypes.size)[j]?=some r->Value.okWide P W' .any 0 t r):
 s.post enc P f apart fresh handsOn again W args v W':=by
 have hold:∀ p∈before,(fun b=>decide (b < W.heap.size)) p.block=true:=fun p hp=>by simpa using hW.lt p hp
 have hlt:=hW.lt;refine ⟨ds,gs,before,[],pa,pv,hW,hres _ _ _,hargs _ hold,hvars _ hold,World.keptBut_mono (fun p hp=>⟨hp,?_⟩) hk,fun _=>?_⟩
 ·rw [hps,zaZ] at hp;exact Or.inr hp
 ·obtain ⟨_,_,_,_,_,hz,hn⟩:=hW;refine ⟨hok,_,_,([]++pa)++pv,⟨[]++pa,pv,trodAll_append (hargs _ (fun _ _=>rfl)) (hres _ _ _),hvars _ (fun _ _=>rfl),rfl,?_,?_⟩,?_⟩
  ·intro b off hp;rw [hfz _ (by have:=hlt _ (show (_:MemPlace)∈before by rw [hps];simpa using hp);exact this)];exact hz b off (by rw [hps];simpa using hp)
  ·intro ha;have:=hn ha;rw [hps] at this;simpa using this
  ·intro p hp _;rw [hps];simpa using hp
theorem PB {f:Func} {s:ChangeSpec} {apart fresh handsOn again:Bool} {W':World} {args:Array Value} {ds:List (DataW H)} {before:List MemPlace} {tb:TypeId}
 (hW:DataW.Whole enc P f.params.toList s.vars apart W args.toList ds [] before) (hvars:s.vars=[]) (hr:f.resultTypes=#[tb]) (htb:P.underlying tb=some .bool) (hl:laidOutB P=true)
 (hT:∀ t∈f.params.toList,P.readableRec t=true/\t < P.types.size) (KI:cZ W W') (hsz:W.heap.size<=W'.heap.size) (FB:∀ b,b < W.heap.size->W'.heap[b]?=W.heap[b]?)
 (hspec:(s.fn H (ds++[])).results=[.lit (.bool true)]/\(s.fn H (ds++[])).args=ds/\(s.fn H (ds++[])).vars=[]):
 s.post enc P f apart fresh handsOn again W args (.bool true) W':=by
 have hW':=hW;obtain ⟨p,q,hA,hV,rfl,hfz,Fy⟩:=hW';rw [hvars] at hV;obtain ⟨_,rfl⟩:=trodVars_none hV;have hb:Below W.heap.size W W':=⟨KI.os,KI.tape,KI.output,hsz,FB⟩;refine Kh (pa:=p) (pv:=[]) hW (fun b sp hd=>?_) (fun sp hsp=>?_) (fun sp _=>?_) rfl (hb.frame _) (fun a ha=>KI.uc a ha)
  (ok_one hr rfl (okWide_bool_mk htb true))
 ·rw [hspec.1,hr];exact trodAll_mk1 (shut_bool htb true)
 ·rw [hspec.2.1];refine pD hl _ _ _ _ hA hT (fun x hx=>hb.same (hW.lt x (by simp [hx]))) (fun x hx=>hsp x (by simp [hx]))
 ·rw [hspec.2.2,hvars];exact rfl
theorem J1 {E:Env} {hp:Nat->Bool} (b7:iH P E) (abu:∀ c:Ctx,c.w=W->(∀ b,¬ c.O b)->gU c E.aF) {f:FuncId} {fn:Func} {s:ChangeSpec} {apart fresh handsOn again:Bool} {args:Array Value}
 {ds gs:List (DataW H)} {before:List MemPlace} {tb D b:Nat}
 (hval:∀ (j:Nat) t v,fn.params[j]?=some t->args[j]?=some v->Value.okWide P W .any b t v)
 (hW:DataW.Whole enc P fn.params.toList s.vars apart W args.toList ds gs before) (hvars:s.vars=[]) (hr:fn.resultTypes=#[tb]) (htb:P.underlying tb=some .bool) (hl:laidOutB P=true)
 (hT:∀ t∈fn.params.toList,(P.readableRec t=true/\t < P.types.size)/\gG P D t=true)
 (hspec:∀ ds:List (DataW H),ds.length=fn.params.size->(s.fn H (ds++[])).results=[.lit (.bool true)]/\(s.fn H (ds++[])).args=ds/\(s.fn H (ds++[])).vars=[])
 (adV:∀ xs,Q1 P D fn.params.toList xs->Pu E hp f xs (.bool true)):
 Calls P f args W fun e W'=>∃ v,e= .returned v/\s.post enc P fn apart fresh handsOn again W args v W':=by
 have hgs:gs=[]:=by
  obtain ⟨_,_,_,hV,_⟩:=hW;rw [hvars] at hV;exact (trodVars_none hV).1
 subst hgs;obtain ⟨p,q,hA,_⟩:=id hW;obtain ⟨xs,x1,x2,x3,x4⟩:=I6 (D:=D) (b:=b) _ _ _ _ hA (fun t ht=>(hT t ht).2) (fun j t v hj hv=>hval j t v (by simpa using hj) (by simpa using hv));have hc:=(adV xs x1).calls b7 (c:=base W) (fun b h=>h) rfl (abu _ rfl fun b h=>h) x2 x4;have e0:args.toList.toArray=args:=by simp
 rw [e0] at hc;refine hc.mono ?_;rintro e W' ⟨v,rfl,⟨hsz,KI⟩,FB,_,hres⟩;have hv:=hres ⟨W',fun _=>False,id,id,[]⟩ rfl (fun b h=>h)
 cases hv;exact ⟨_,rfl,PB hW hvars hr htb hl (fun t ht=>(hT t ht).1) KI hsz FB (hspec ds (by simpa using x3))⟩
theorem OQ (c:Ctx):gU c (fun _=>[]):=fun g=> .bR [] _ (fun _=>undef) (fun j hj=>by simp at hj) (fun h=>absurd rfl h) (fun j hj=>by simp at hj) (fun j hj=>by simp at hj)
end
end Go.Am
end
section
namespace Go.Am
open Go.Am.As
def inK (k:IntKind) (n:Int):Prop:=k.min<=n/\n<=k.max
theorem Xw {k:IntKind} {n:Int} (h:(Lit.int k n).wf=true):inK k n:=by
 unfold inK;simpa [Lit.wf] using h
section
variable {P:Program} {D:Nat}
theorem Bu {t:TypeId} {k:IntKind} {xs:List AV} (hu:P.underlying t=some (.int k)) (h:Sh P (D+1) t xs):∃ n,xs=[.int k n]/\inK k n:=by
 simp only [Sh,hu] at h;obtain ⟨n,h1,h2⟩:=h;exact ⟨n,h1,Xw h2⟩
theorem R7 {t:TypeId} {xs:List AV} (hu:P.underlying t=some .bool) (h:Sh P (D+1) t xs):∃ b,xs=[.bool b]:=by
 simpa only [Sh,hu] using h
theorem Nf {α:Type} {C:α->List AV} {R:α->Prop} {S:List AV->Prop} (he:∀ c,S c->∃ a,c=C a/\R a):∀ es:List (List AV),(∀ c∈es,S c)->∃ l:List α,es=l.map C/\∀ a∈l,R a
 | [],_=>⟨[],rfl,by simp⟩
 | c::es,h=>by
  obtain ⟨a,h1,h2⟩:=he c (h c (by simp));obtain ⟨l,h3,h4⟩:=Nf he es fun c hc=>h c (by simp [hc])
  exact ⟨a::l,by simp [h1,h3],by simpa using ⟨h2,h4⟩⟩
theorem DG {α:Type} {C:α->List AV} {R:α->Prop} {t e:TypeId} {xs:List AV} (hu:P.underlying t=some (.slice e)) (h:Sh P (D+1) t xs) (he:∀ c,Sh P D e c->∃ a,c=C a/\R a):
 ∃ l:List α,xs=[.ro (l.map C)]/\l.length<=maxLen/\∀ a∈l,R a:=by
 simp only [Sh,hu] at h;obtain ⟨es,h1,h2,h3⟩:=h;obtain ⟨l,h4,h5⟩:=Nf he es h3;subst h4;exact ⟨l,h1,by simpa using h2,h5⟩
theorem qp {t:TypeId} {fs:Array Field} {f1 f2:Field} {xs:List AV} (hu:P.underlying t=some (.struct fs)) (hf:fs.toList=[f1,f2]) (h:Sh P (D+1) t xs):
 ∃ a b,xs=a++b/\Sh P D f1.type a/\Sh P D f2.type b:=by
 simp only [Sh,hu,hf,UK] at h;obtain ⟨a,c,h1,h2,b,d,h3,h4,h5⟩:=h;subst h5;subst h3;exact ⟨a,b,by simpa using h1,h2,h4⟩
theorem R9 {t:TypeId} {x:AV} (ha:FU P t=true) (h:UL P D t x):∃ xs,x= .agg xs/\Sh P D t xs:=by simpa [UL,ha] using h
theorem Sa {t:TypeId} {x:AV} (ha:FU P t=false) (h:UL P D t x):Sh P D t [x]:=by simpa [UL,ha] using h
end
end Go.Am
end
section
namespace ck
open Go.Proofs Go Go.Pl Go.Am Go.Am.As
theorem Iw {P:Program} {hs:List (Nat×Hint)} {n:Nat} {fn:Func} {rf:RF} (h:wh P hs n fn=some rf):rf.nargs=n:=by
 unfold wh at h;split at h
 ·split at h
  ·cases h
  ·injection h with h;subst h;rfl
 ·cases h
theorem Wv (P:Program) (H:Nat->List (Nat×Hint)) {G:Nat->List AV} (hG:∀ g,AV.aR 0 (G g)=true) (hn:(P.funcs.all fun fn=>decide (fn.params.size+fn.nfree < 900))=true):iH P { fns:=HM P H,aF:=G }:=by
 have key:∀ f rf,HM P H f=some rf->∃ fn,P.funcs[f]?=some fn/\wh P (H f) (fn.params.size+fn.nfree) fn=some rf:=fun f rf h=>by
  unfold HM at h
  cases hfn:P.funcs[f]? with
  | none=>rw [hfn] at h;cases h
  | some fn=>rw [hfn] at h;exact ⟨fn,rfl,h⟩
 refine ⟨fun f rf h=>?_,fun f rf h=>?_,hG⟩
 ·obtain ⟨fn,h1,h2⟩:=key f rf h;exact ⟨fn,H f,h1,by rw [Iw h2];exact h2⟩
 ·obtain ⟨fn,h1,h2⟩:=key f rf h;obtain ⟨h3,h4⟩:=zaX.1 h1;have h5:=Array.all_eq_true.1 hn f h3;rw [h4,decide_eq_true_eq] at h5;have h6:=Iw h2;exact ⟨fun e=>by omega,fun e=>by omega⟩
theorem Ww:iH Tryz.prog E0:=Wv Tryz.prog hs (fun _=>rfl) (by kernel_rfl)
end ck
end
section
namespace ck
set_option maxRecDepth 100000
open Go.Proofs Go Go.Pl Go.Am Go.Am.As
theorem J0 {D:Nat} {xs:List AV} (h:Sh Tryz.prog (D+2) 66 xs):∃ y:bS,xs=nT y:=by
 obtain ⟨x,y,rfl,h1,h2⟩:=qp Tryz.underlying66 rfl h;obtain ⟨n,rfl,_⟩:=Bu Tryz.underlying3 h1;obtain ⟨b,rfl⟩:=R7 Tryz.underlying4 h2;exact ⟨⟨n,b⟩,rfl⟩
theorem R8 {D:Nat} {xs:List AV} (h:Sh Tryz.prog (D+4) 75 xs):∃ x:cz,xs=wG x:=by
 obtain ⟨x,y,rfl,h1,h2⟩:=qp Tryz.underlying75 rfl h;obtain ⟨l,rfl,_,_⟩:=DG (C:=nT) (R:=fun _=>True) Tryz.underlying59 h1 (fun c hc=>by
  obtain ⟨y,h⟩:=J0 hc;exact ⟨y,h,trivial⟩)
 obtain ⟨n,rfl,_⟩:=Bu Tryz.underlying3 h2;exact ⟨⟨l,n⟩,rfl⟩
theorem WR {D:Nat} {xs:List AV} (h:Sh Tryz.prog (D+6) 24 xs):∃ s:af,xs=iB s:=by
 obtain ⟨x,y,rfl,h1,h2⟩:=qp Tryz.underlying24 rfl h;obtain ⟨n,rfl,_⟩:=Bu Tryz.underlying3 h1;obtain ⟨l,rfl,_,_⟩:=DG (C:=wG) (R:=fun _:cz=>True) Tryz.underlying22 h2 (fun c hc=>by
  obtain ⟨x,h⟩:=R8 hc;exact ⟨x,h,trivial⟩)
 exact ⟨⟨n,l⟩,rfl⟩
theorem own:ownKnob Tryz.prog.godebug=none:=by kernel_rfl
theorem laidOut:laidOutB Tryz.prog=true:=by kernel_rfl
end ck
end
