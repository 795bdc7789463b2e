/- Parts of my machine and its laws, joined: G33D AmZ2 AmZ3 AmZ5 G33v G33s. No condition. -/
import Derived.Test.YtafgdbaekppjcaaGreatDoorDnL
import Derived.KernelRfl
import Derived.Test.YtafgdbaekppjcaaGreatDoorG33H
import Derived.Test.YtafgdbaekppjcaaGreatDoorG33M
import Derived.Test.YtafgdbaekppjcaaGreatDoorAmZ1
import Derived.ProofKit
import Derived.ChangeArms
import Derived.Test.YtafgdbaekppjcaaGreatDoorAmP0
import Derived.Test.YtafgdbaekppjcaaGreatDoorRows
set_option linter.unusedSectionVars false
set_option linter.unusedVariables false
set_option linter.unusedSimpArgs false
section
namespace G33
open Go hiding Obj mark
open Go.Pl Go.Am Go.Am.As Dnm
set_option linter.unusedVariables false
set_option linter.unusedSimpArgs false
def cSStroke (x:SStroke):List AV:=[.int .i64 x.Actuator,.bool x.Out]
def cSStep (x:SStep):List AV:=[.ro (x.Strokes.map cSStroke),.int .i64 x.Wait]
def cSSequence (x:SSequence):List AV:=[.int .i64 x.Actuators,.ro (x.Steps.map cSStep)]
mutual
def cSExpr:SExpr→List AV
 | ⟨x0,x1,x2⟩=>[.int .i64 x0,.int .i64 x1,.ro (cSExprs x2)]
def cSExprs:List SExpr→List (List AV)
 | []=>[]
 | x::l=>cSExpr x::cSExprs l
end
theorem cSExprs_map:∀ l:List SExpr,cSExprs l=l.map cSExpr
 | []=>rfl
 | x::l=>by rw [cSExprs,cSExprs_map l];rfl
def cSSignal (x:SSignal):List AV:=[.str x.Name,.int .i64 x.Kind]++cSExpr x.On++cSExpr x.Off++[.int .i64 x.Delay,.bool x.Init]
def cSControl (x:SControl):List AV:=[.int .i64 x.Actuators,.ro (x.Inputs.map (fun b=>[AV.str b])),.ro (x.Signals.map cSSignal),.ro (x.Plus.map (fun n=>[AV.int .i64 n])),.ro (x.Minus.map (fun n=>[AV.int .i64 n]))]
def cSPlan (x:SPlan):List AV:=cSSequence x.S++[.ro (x.Timers.map (fun n=>[AV.int .i64 n]))]
def cSbuilder (x:Sbuilder):List AV:=cSSequence x.f_s++[.ro (x.f_division.map (fun n=>[AV.int .i64 n])),.ro (x.f_groups.map (fun n=>[AV.int .i64 n])),.ro (x.f_timers.map (fun n=>[AV.int .i64 n])),.ro (x.f_steps.map (fun n=>[AV.int .i64 n]))]++cSControl x.f_c
abbrev I:=Ty.int .i64
abbrev B:=Ty.bool
abbrev S:=Ty.str
abbrev st0:=Ty.st 0
abbrev st1:=Ty.st 1
abbrev st2:=Ty.st 2
abbrev st4:=Ty.st 4
abbrev st5:=Ty.st 5
abbrev st6:=Ty.st 6
abbrev st8:=Ty.st 8
abbrev st11:=Ty.st 11
def GT:Nat→Type
 | 0=>SStroke
 | 1=>SStep
 | 2=>SSequence
 | 4=>SExpr
 | 5=>SSignal
 | 6=>SControl
 | 8=>SPlan
 | 11=>Sbuilder
 | _=>Unit
def gft:Nat→List Ty
 | 0=>[I,B]
 | 1=>[(.list st0),I]
 | 2=>[I,(.list st1)]
 | 4=>[I,I,(.list st4)]
 | 5=>[S,I,st4,st4,I,B]
 | 6=>[I,(.list S),(.list st5),(.list I),(.list I)]
 | 8=>[st2,(.list I)]
 | 11=>[st2,(.list I),(.list I),(.list I),(.list I),st6]
 | _=>[]
def gn:Nat→Nat
 | 0=>2
 | 1=>2
 | 2=>2
 | 4=>3
 | 5=>10
 | 6=>5
 | 8=>3
 | 11=>11
 | _=>0
def gto:(i:Nat)→GT i→DL GT (gft i)
 | 0,(x:SStroke)=>(x.Actuator,x.Out)
 | 1,(x:SStep)=>(x.Strokes,x.Wait)
 | 2,(x:SSequence)=>(x.Actuators,x.Steps)
 | 3,_=>()
 | 4,(x:SExpr)=>(x.Op,x.Index,x.Args)
 | 5,(x:SSignal)=>(x.Name,x.Kind,x.On,x.Off,x.Delay,x.Init)
 | 6,(x:SControl)=>(x.Actuators,x.Inputs,x.Signals,x.Plus,x.Minus)
 | 7,_=>()
 | 8,(x:SPlan)=>(x.S,x.Timers)
 | 9,_=>()
 | 10,_=>()
 | 11,(x:Sbuilder)=>(x.f_s,x.f_division,x.f_groups,x.f_timers,x.f_steps,x.f_c)
 | _+12,_=>()
def gof:(i:Nat)→DL GT (gft i)→GT i
 | 0,w=>(⟨w.1,w.2⟩:SStroke)
 | 1,w=>(⟨w.1,w.2⟩:SStep)
 | 2,w=>(⟨w.1,w.2⟩:SSequence)
 | 3,_=>()
 | 4,w=>(⟨w.1,w.2.1,w.2.2⟩:SExpr)
 | 5,w=>(⟨w.1,w.2.1,w.2.2.1,w.2.2.2.1,w.2.2.2.2.1,w.2.2.2.2.2⟩:SSignal)
 | 6,w=>(⟨w.1,w.2.1,w.2.2.1,w.2.2.2.1,w.2.2.2.2⟩:SControl)
 | 7,_=>()
 | 8,w=>(⟨w.1,w.2⟩:SPlan)
 | 9,_=>()
 | 10,_=>()
 | 11,w=>(⟨w.1,w.2.1,w.2.2.1,w.2.2.2.1,w.2.2.2.2.1,w.2.2.2.2.2⟩:Sbuilder)
 | _+12,_=>()
def genc:(i:Nat)→GT i→List AV
 | 0,x=>cSStroke x
 | 1,x=>cSStep x
 | 2,x=>cSSequence x
 | 3,_=>[]
 | 4,x=>cSExpr x
 | 5,x=>cSSignal x
 | 6,x=>cSControl x
 | 7,_=>[]
 | 8,x=>cSPlan x
 | 9,_=>[]
 | 10,_=>[]
 | 11,x=>cSbuilder x
 | _+12,_=>[]
def sp:Sp GT:=⟨gn,gft,gto,gof,genc⟩
theorem eok0:EncOk cSStroke 2:=⟨fun _=>rfl,fun _=>rfl,fun _=>rfl⟩
theorem eok1:EncOk cSStep 2:=⟨fun _=>rfl,fun _=>rfl,fun _=>rfl⟩
theorem eok2:EncOk cSSequence 2:=⟨fun _=>rfl,fun _=>rfl,fun _=>rfl⟩
theorem eok5:EncOk cSSignal 10:=⟨fun x=>by obtain ⟨x0,x1,x2,x3,x4,x5⟩:=x;cases x2;cases x3;rfl,fun x=>by obtain ⟨x0,x1,x2,x3,x4,x5⟩:=x;cases x2;cases x3;rfl,fun x=>by obtain ⟨x0,x1,x2,x3,x4,x5⟩:=x;cases x2;cases x3;rfl⟩
theorem eok6:EncOk cSControl 5:=⟨fun _=>rfl,fun _=>rfl,fun _=>rfl⟩
theorem eok8:EncOk cSPlan 3:=⟨fun _=>rfl,fun _=>rfl,fun _=>rfl⟩
theorem eok11:EncOk cSbuilder 11:=⟨fun _=>rfl,fun _=>rfl,fun _=>rfl⟩
theorem sp_enc:∀ i,EncOk (genc i) (gn i)
 | 0=>eok0
 | 1=>eok1
 | 2=>eok2
 | 3=>⟨fun _=>rfl,fun _=>rfl,fun _=>rfl⟩
 | 4=>⟨fun x=>by cases x;rfl,fun x=>by cases x;rfl,fun x=>by cases x;rfl⟩
 | 5=>eok5
 | 6=>eok6
 | 7=>⟨fun _=>rfl,fun _=>rfl,fun _=>rfl⟩
 | 8=>eok8
 | 9=>⟨fun _=>rfl,fun _=>rfl,fun _=>rfl⟩
 | 10=>⟨fun _=>rfl,fun _=>rfl,fun _=>rfl⟩
 | 11=>eok11
 | _+12=>⟨fun _=>rfl,fun _=>rfl,fun _=>rfl⟩
theorem sp_e:∀ i x,genc i x=encDL sp.ge (gft i) (gto i x)
 | 0,_=>rfl
 | 1,_=>rfl
 | 2,_=>rfl
 | 3,_=>rfl
 | 4,x=>by
  have x0:SExpr:=x
  cases x with | mk=>exact (by show cSExpr _=_;rw [cSExpr,cSExprs_map];rfl)
 | 5,x=>by
  have x0:SSignal:=x
  obtain ⟨x0,x1,x2,x3,x4,x5⟩:=x;cases x2;cases x3;rfl
 | 6,_=>rfl
 | 7,_=>rfl
 | 8,_=>rfl
 | 9,_=>rfl
 | 10,_=>rfl
 | 11,_=>rfl
 | _+12,_=>rfl
theorem sp_to:∀ i w,gto i (gof i w)=w
 | 0,_=>rfl
 | 1,_=>rfl
 | 2,_=>rfl
 | 3,_=>rfl
 | 4,_=>rfl
 | 5,_=>rfl
 | 6,_=>rfl
 | 7,_=>rfl
 | 8,_=>rfl
 | 9,_=>rfl
 | 10,_=>rfl
 | 11,_=>rfl
 | _+12,_=>rfl
theorem sp_ok:sp.Ok:=⟨sp_enc,sp_e,sp_to⟩
theorem sp_wk:sp.ge.Wk
 | 0,_=>rfl
 | 1,_=>rfl
 | 2,_=>rfl
 | 3,_=>rfl
 | 4,x=>by cases x;rfl
 | 5,x=>by obtain ⟨x0,x1,x2,x3,x4,x5⟩:=x;cases x2;cases x3;rfl
 | 6,_=>rfl
 | 7,_=>rfl
 | 8,_=>rfl
 | 9,_=>rfl
 | 10,_=>rfl
 | 11,_=>rfl
 | _+12,_=>rfl
def EG (F:Nat→Option RF):Env:={ fns:=F,glob:=G0 }
def XG (F:Nat→Option RF) (C:List (Con GT)):Cx GT:=⟨sp.ge,G0,F,hp,C⟩
theorem xok {F:Nat→Option RF} {C:List (Con GT)} (h:∀ c∈C,c.Ok (EG F) hp sp.ge):(XG F C).Ok (EG F):=⟨Sp.ge_ok sp_ok,sp_wk,rfl,rfl,h⟩
def OneOk (F:Nat→Option RF) (C:List (Con GT)) (CM:List (ConM GT)) (c:Con GT) (a:An):Prop:=∀ x,(match F c.f with | some rf=>dfun (XG F C) CM 6 rf c.args c.ts c.rs a x | none=>none)=c.m x
theorem con_ofG {F:Nat→Option RF} {C:List (Con GT)} {CM:List (ConM GT)} {c:Con GT} {a:An} (h:OneOk F C CM c a) (hC:∀ c∈C,c.Ok (EG F) hp sp.ge) (hM:∀ c∈CM,c.Ok (EG F) hp sp.ge):c.Ok (EG F) hp sp.ge:=by
 intro x r hr
 have h:=(h x).trans hr
 split at h
 ·rename_i rf hf;exact dfun_ok (xok hC) hM hf h
 ·cases h
def OneOkM (F:Nat→Option RF) (C:List (Con GT)) (CM:List (ConM GT)) (c:ConM GT) (a:An):Prop:=∀ x,(match F c.f with | some rf=>dfunM (XG F C) CM 6 rf c.args c.ts c.t a x | none=>none)=c.m x
theorem conM_ofG {F:Nat→Option RF} {C:List (Con GT)} {CM:List (ConM GT)} {c:ConM GT} {a:An} (h:OneOkM F C CM c a) (hC:∀ c∈C,c.Ok (EG F) hp sp.ge) (hM:∀ c∈CM,c.Ok (EG F) hp sp.ge):c.Ok (EG F) hp sp.ge:=by
 intro x r hr hne
 have h:=(h x).trans hr
 split at h
 ·rename_i rf hf;exact dfunM_ok (xok hC) hM hf h hne
 ·cases h
theorem con_of {C:List (Con GT)} {CM:List (ConM GT)} {c:Con GT} (a:An) (h:OneOk fns C CM c a) (hC:∀ c∈C,c.Ok E0 hp sp.ge) (hM:∀ c∈CM,c.Ok E0 hp sp.ge):c.Ok E0 hp sp.ge:=con_ofG (F:=fns) h hC hM
theorem conM_of {C:List (Con GT)} {CM:List (ConM GT)} {c:ConM GT} (a:An) (h:OneOkM fns C CM c a) (hC:∀ c∈C,c.Ok E0 hp sp.ge) (hM:∀ c∈CM,c.Ok E0 hp sp.ge):c.Ok E0 hp sp.ge:=conM_ofG (F:=fns) h hC hM
theorem cnil:∀ c∈([]:List (Con GT)),c.Ok E0 hp sp.ge:=nofun
theorem ccons {c:Con GT} {C:List (Con GT)} (h:c.Ok E0 hp sp.ge) (hC:∀ c∈C,c.Ok E0 hp sp.ge):∀ d∈c::C,d.Ok E0 hp sp.ge:=fun d hd=>by
 rcases List.mem_cons.1 hd with rfl | hd
 ·exact h
 ·exact hC d hd
theorem mnil:∀ c∈([]:List (ConM GT)),c.Ok E0 hp sp.ge:=nofun
theorem mcons {c:ConM GT} {C:List (ConM GT)} (h:c.Ok E0 hp sp.ge) (hC:∀ c∈C,c.Ok E0 hp sp.ge):∀ d∈c::C,d.Ok E0 hp sp.ge:=fun d hd=>by
 rcases List.mem_cons.1 hd with rfl | hd
 ·exact h
 ·exact hC d hd
end G33
end
section
namespace Go.Am
def ShL (R:TypeId→List AV→Prop):List Field→List AV→Prop
 | [],xs=>xs=[]
 | f::fs,xs=>∃ a b,xs=a++b∧R f.type a∧ShL R fs b
def ShN (R:List AV→Prop):Nat→List AV→Prop
 | 0,xs=>xs=[]
 | n+1,xs=>∃ a b,xs=a++b∧R a∧ShN R n b
section
variable (P:Program)
def Sh:Nat→TypeId→List AV→Prop
 | 0,_,_=>False
 | d+1,t,xs=>match P.underlying t with
  | some .bool=>∃ b,xs=[.bool b]
  | some (.int k)=>∃ n,xs=[.int k n]∧(Lit.int k n).wf=true
  | some .string=>∃ s:List UInt8,xs=[.str s]∧s.length≤maxLen
  | some (.slice e)=>∃ es,xs=[.ro es]∧es.length≤maxLen∧∀ c∈es,Sh d e c
  | some (.struct fs)=>ShL (Sh d) fs.toList xs
  | some (.array n e)=>ShN (Sh d e) n xs
  | _=>False
theorem bels_app:∀ (a b:List AV),AV.bels 0 a=true→AV.bels 0 b=true→AV.bels 0 (a++b)=true
 | [],_,_,hb=>hb
 | y::a,b,ha,hb=>by
  simp only [AV.bels,Bool.and_eq_true,List.cons_append] at ha ⊢
  exact ⟨ha.1,bels_app a b ha.2 hb⟩
theorem ShL_free {S:TypeId→List AV→Prop} (hS:∀ t xs,S t xs→AV.bels 0 xs=true):∀ (fs:List Field) (xs:List AV),ShL S fs xs→AV.bels 0 xs=true
 | [],xs,h=>by simp only [ShL] at h;subst h;rfl
 | f::fs,xs,h=>by
  simp only [ShL] at h
  obtain ⟨a,b,rfl,h1,h2⟩:=h
  exact bels_app a b (hS _ _ h1) (ShL_free hS fs b h2)
theorem ShN_free {S:List AV→Prop} (hS:∀ xs,S xs→AV.bels 0 xs=true):∀ (n:Nat) (xs:List AV),ShN S n xs→AV.bels 0 xs=true
 | 0,xs,h=>by simp only [ShN] at h;subst h;rfl
 | n+1,xs,h=>by
  simp only [ShN] at h
  obtain ⟨a,b,rfl,h1,h2⟩:=h
  exact bels_app a b (hS _ h1) (ShN_free hS n b h2)
theorem Sh_free:∀ (D:Nat) (t:TypeId) (xs:List AV),Sh P D t xs→AV.bels 0 xs=true
 | 0,_,_,h=>by simp [Sh] at h
 | D+1,t,xs,h=>by
  simp only [Sh] at h
  split at h
  ·obtain ⟨b,rfl⟩:=h;rfl
  ·obtain ⟨n,rfl,_⟩:=h;rfl
  ·obtain ⟨s,rfl,_⟩:=h;rfl
  ·obtain ⟨es,rfl,_⟩:=h;rfl
  ·exact ShL_free (Sh_free D) _ _ h
  ·exact ShN_free (Sh_free D _) _ _ h
  ·exact h.elim
def layFs:Nat→List Field→Bool
 | _,[]=>true
 | off,f::fs=>f.offset==off&&layFs (off+P.cellsOf f.type) fs
def sumFs:List Field→Nat
 | []=>0
 | f::fs=>P.cellsOf f.type+sumFs fs
def plainT:Nat→TypeId→Bool
 | 0,_=>false
 | d+1,t=>match P.underlying t with
  | some .bool=>P.cellsOf t==1
  | some (.int _)=>P.cellsOf t==1
  | some .string=>P.cellsOf t==1
  | some (.slice e)=>P.cellsOf t==1&&plainT d e
  | some (.struct fs)=>layFs P 0 fs.toList&&(sumFs P fs.toList==P.cellsOf t)&&fs.toList.all fun f=>plainT d f.type
  | some (.array n e)=>P.cellsOf t==n*P.cellsOf e&&plainT d e
  | _=>false
def base (w:World):Ctx:=⟨w,fun _=>False,id,id,[]⟩
def Vs (c:Ctx) (xs:List AV) (cs:List Value):Prop:=xs.length=cs.length∧∀ i (h:i < xs.length) (h':i < cs.length),V c xs[i] cs[i]
theorem Vs.app {c:Ctx} {xs ys:List AV} {cs ds:List Value} (h:Vs c xs cs) (h':Vs c ys ds):Vs c (xs++ys) (cs++ds):=by
 refine ⟨by simp [h.1,h'.1],fun i h1 h2=>?_⟩
 by_cases hi:i < xs.length
 ·rw [List.getElem_append_left hi,List.getElem_append_left (by rw [←h.1];exact hi)]
  exact h.2 i hi _
 ·rw [List.getElem_append_right (by omega),List.getElem_append_right (by rw [←h.1];omega)]
  have:=h'.2 (i - xs.length) (by simp at h1;omega) (by simp at h2;have:=h.1;omega)
  simp only [←h.1];exact this
theorem Vs.one {c:Ctx} {x:AV} {v:Value} (h:V c x v):Vs c [x] [v]:=by
 refine ⟨rfl,fun i h1 h2=>?_⟩
 have:i=0:=by simp at h1;omega
 subst this;exact h
variable {P} {H:Type} {enc:TypeId×Value→H} {W:World}
theorem cell_at {a:Addr} {m j:Nat} {v:Value} (h:W.cell? ((a.add m).add j)=some v):W.cell? ⟨a.block,a.off+m+j,none⟩=some v∧(m+j=0→a.spot=none):=by
 have hs:∀ b:Addr,W.cell? b=some v→b.spot=none:=by
  intro b hb
  unfold World.cell? at hb
  split at hb
  ·split at hb
   ·simp at hb
   ·rename_i h1;simpa using h1
  ·simp at hb
 have h0:=hs _ h
 have e:(a.add m).add j=⟨a.block,a.off+m+j,none⟩:=by
  cases a with
  | mk b o s=>
   unfold Addr.add at h0 ⊢
   by_cases hm:m=0<;>by_cases hj:j=0<;>simp_all
 refine ⟨by rw [←e];exact h,fun hz=>?_⟩
 have hm:m=0:=by omega
 have hj:j=0:=by omega
 subst hm;subst hj
 simpa [Addr.add] using h0
theorem trod_Sh:∀ (D:Nat) (t:TypeId),plainT P D t=true→∀ (fuel:Nat) (cs:List Value) (x:DataW H×List MemPlace),
 DataW.trod enc P W 0 (fun _=>true) true fuel t cs=some x→cs.length=P.cellsOf t∧∃ xs,Sh P D t xs∧Vs (base W) xs cs
 | 0,t,h=>by simp [plainT] at h
 | D+1,t,h=>by
  intro fuel cs x hx
  simp only [plainT] at h
  simp only [Sh]
  split at h
  ·rename_i hu
   obtain ⟨b,rfl,_⟩:=DataW.trod_bool hu hx
   simp only [beq_iff_eq] at h
   exact ⟨by simp [h],[.bool b],⟨b,rfl⟩,Vs.one (.bool b)⟩
  ·rename_i k hu
   obtain ⟨n,rfl,_,hw⟩:=DataW.trod_int hu hx
   simp only [beq_iff_eq] at h
   exact ⟨by simp [h],[.int k n],⟨n,rfl,hw⟩,Vs.one (.int k n)⟩
  ·rename_i hu
   obtain ⟨s,rfl,_,hl⟩:=DataW.trod_string hu hx
   simp only [beq_iff_eq] at h
   have hsl:s.data.toList.length=s.size:=Array.length_toList
   exact ⟨by simp [h],[.str s.data.toList],⟨_,rfl,by rw [hsl];exact hl⟩,Vs.one (.str s.data.toList)⟩
  ·rename_i e hu
   simp only [Bool.and_eq_true,beq_iff_eq] at h
   rcases DataW.trod_slice hu hx with ⟨rfl,_⟩ | ⟨a,len,cap,elems,rest,n,rfl,rfl,_,_,hlc,hcm,hel,hget,_,_⟩
   ·exact ⟨by simp [h.1],[.ro []],⟨[],rfl,Nat.zero_le _,fun c hc=>by simp at hc⟩,Vs.one .ro0⟩
   ·have key:∀ i,i < len→∃ ys:List Value,∃ es:List AV,W.cells? 0 (a.add (i*P.cellsOf e)) (P.cellsOf e)=some ys∧Sh P D e es∧Vs (base W) es ys:=by
     intro i hi
     have h1:=hget i hi
     rw [List.getElem?_eq_getElem (by omega)] at h1
     obtain ⟨ys,h2,h3⟩:=Option.bind_eq_some_iff.1 h1
     obtain ⟨_,es,h4,h5⟩:=trod_Sh D e h.2 n ys _ h3
     exact ⟨ys,es,h2,h4,h5⟩
    let g:Nat→List Value:=fun i=>if hi:i < len then Classical.choose (key i hi) else []
    let f:Nat→List AV:=fun i=>if hi:i < len then Classical.choose (Classical.choose_spec (key i hi)) else []
    have hg:∀ i,i < len→W.cells? 0 (a.add (i*P.cellsOf e)) (P.cellsOf e)=some (g i)∧Sh P D e (f i)∧Vs (base W) (f i) (g i):=by
     intro i hi
     have:=Classical.choose_spec (Classical.choose_spec (key i hi))
     simp only [g,f,hi,dif_pos]
     exact this
    have hc:∀ i,i < len→(g i).length=P.cellsOf e∧∀ j,j < P.cellsOf e→W.cell? ⟨a.block,a.off+i*P.cellsOf e+j,none⟩=some ((g i).getD j undef)∧(i*P.cellsOf e+j=0→a.spot=none):=by
     intro i hi
     obtain ⟨_,h2,h3⟩:=World.cells?_some (hg i hi).1
     refine ⟨h2,fun j hj=>?_⟩
     have h4:=h3 j hj
     have hj':j < (g i).length:=by omega
     rw [List.getElem?_eq_getElem hj'] at h4
     have h5:=cell_at h4
     simp only [List.getD,List.getElem?_eq_getElem hj',Option.getD_some]
     exact h5
    have hlen:((List.range len).map f).length=len:=by simp
    refine ⟨by simp [h.1],[.ro ((List.range len).map f)],⟨_,rfl,by rw [hlen];omega,fun c hm=>?_⟩,Vs.one ?_⟩
    ·obtain ⟨i,hi,rfl⟩:=List.mem_map.1 hm
     exact (hg i (by simpa using hi)).2.1
    ·have hV:=V.ro (c:=base W) ((List.range len).map f) a cap (P.cellsOf e) (fun i j=>(g i).getD j undef) (fun i j hi hj=>by
      have hi':i < len:=by simpa using hi
      have hfi:((List.range len).map f)[i]=f i:=by simp
      have hbl:=Sh_free P D e _ (hg i hi').2.1
      have hj':j < (f i).length:=by rw [←hfi];exact hj
      have:=bels_get hbl j hj'
      simpa [hfi] using this) (by rw [hlen];exact hlc) (fun hne hz=>⟨?_,fun h=>h⟩) (fun i hi=>?_) (fun i j hi hj=>?_) (fun i j hi hj=>?_)
     ·rw [hlen] at hV;exact hV
     ·have h0:0 < len:=by
       rcases Nat.eq_zero_or_pos len with e0 | e0
       ·subst e0;simp at hne
       ·exact e0
      exact ((hc 0 h0).2 0 hz).2 (by simp)
     ·have hi':i < len:=by simpa using hi
      simp only [List.getElem_map,List.getElem_range]
      rw [(hg i hi').2.2.1,(hc i hi').1]
     ·have hi':i < len:=by simpa using hi
      simp only [List.getElem_map,List.getElem_range] at hj
      rw [(hg i hi').2.2.1,(hc i hi').1] at hj
      exact ((hc i hi').2 j hj).1
     ·have hi':i < len:=by simpa using hi
      simp only [List.getElem_map,List.getElem_range] at hj ⊢
      have hj':j < (g i).length:=by rw [←(hg i hi').2.2.1];exact hj
      have:=(hg i hi').2.2.2 j hj hj'
      simpa [List.getD,hj'] using this
  ·rename_i fs hu
   simp only [Bool.and_eq_true,beq_iff_eq,List.all_eq_true] at h
   obtain ⟨⟨hlay,hsum⟩,hall⟩:=h
   obtain ⟨xs,n,rfl,_,hcl,hxl,hget⟩:=DataW.trod_struct hu hx
   refine ⟨hcl,?_⟩
   have key:∀ (l:List Field) (off k:Nat),(∀ i f,l[i]?=some f→fs[k+i]?=some f)→layFs P off l=true→off+sumFs P l=cs.length→(∀ f∈l,plainT P D f.type=true)→
    ∃ ys,ShL (Sh P D) l ys∧Vs (base W) ys (cs.drop off):=by
    intro l
    induction l with
    | nil=>
     intro off k _ _ hs _
     refine ⟨[],rfl,?_⟩
     simp only [sumFs,Nat.add_zero] at hs
     rw [hs,List.drop_length]
     exact ⟨rfl,fun i h1=>by simp at h1⟩
    | cons f l ih=>
     intro off k hk hl hs hp
     simp only [layFs,Bool.and_eq_true,beq_iff_eq] at hl
     simp only [sumFs] at hs
     have hf:=hget k f (by have:=hk 0 f rfl;simpa using this)
     have hkx:k < xs.length:=by
      rw [hxl]
      have:=hk 0 f rfl
      exact (Array.getElem?_eq_some_iff.1 this).1
     rw [List.getElem?_eq_getElem hkx] at hf
     obtain ⟨_,ys,y1,y2⟩:=trod_Sh D f.type (hp f (by simp)) n _ _ hf
     obtain ⟨zs,z1,z2⟩:=ih (off+P.cellsOf f.type) (k+1) (fun i f' hi=>by have:=hk (i+1) f' (by simpa using hi);rw [←this];congr 1;omega) hl.2 (by omega) (fun f' hf'=>hp f' (by simp [hf']))
     refine ⟨ys++zs,⟨ys,zs,rfl,y1,z1⟩,?_⟩
     have e1:cs.drop off=(cs.drop f.offset).take (P.cellsOf f.type)++cs.drop (off+P.cellsOf f.type):=by
      rw [hl.1,←List.drop_drop,List.take_append_drop]
     rw [e1]
     exact y2.app z2
   obtain ⟨ys,y1,y2⟩:=key fs.toList 0 0 (fun i f hi=>by simpa using hi) hlay (by omega) (fun f hf=>hall f hf)
   exact ⟨ys,y1,by simpa using y2⟩
  ·rename_i n e hu
   simp only [Bool.and_eq_true,beq_iff_eq] at h
   have hinv:cs.length=P.cellsOf t∧∃ m,fuel=m+1∧∀ i,i < n→∃ y,DataW.trod enc P W 0 (fun _=>true) true m e ((cs.drop (i*P.cellsOf e)).take (P.cellsOf e))=some y:=by
    cases fuel with
    | zero=>simp [DataW.trod] at hx
    | succ m=>
     unfold DataW.trod at hx
     rw [hu] at hx
     split at hx<;>simp_all
     obtain ⟨hl0,ys,hp,_⟩:=hx
     refine fun i hi=>?_
     have hl:=mapM_some_length hp
     have h2:=mapM_some_get hp i i (by simp [hi])
     simp at hl
     rw [List.getElem?_eq_getElem (by omega)] at h2
     exact ⟨ys[i].1,ys[i].2,h2⟩
   obtain ⟨hcl,m,rfl,hget⟩:=hinv
   refine ⟨hcl,?_⟩
   have key:∀ (k off:Nat),off+k=n→∃ ys,ShN (Sh P D e) k ys∧Vs (base W) ys (cs.drop (off*P.cellsOf e)):=by
    intro k
    induction k with
    | zero=>
     intro off ho
     refine ⟨[],rfl,?_⟩
     have:off*P.cellsOf e=cs.length:=by rw [hcl,h.1];congr 1
     rw [this,List.drop_length]
     exact ⟨rfl,fun i h1=>by simp at h1⟩
    | succ k ih=>
     intro off ho
     obtain ⟨y,hy⟩:=hget off (by omega)
     obtain ⟨_,ys,y1,y2⟩:=trod_Sh D e h.2 m _ _ hy
     obtain ⟨zs,z1,z2⟩:=ih (off+1) (by omega)
     refine ⟨ys++zs,⟨ys,zs,rfl,y1,z1⟩,?_⟩
     have e1:cs.drop (off*P.cellsOf e)=(cs.drop (off*P.cellsOf e)).take (P.cellsOf e)++cs.drop ((off+1)*P.cellsOf e):=by
      rw [Nat.add_mul,Nat.one_mul,←List.drop_drop,List.take_append_drop]
     rw [e1]
     exact y2.app z2
   obtain ⟨ys,y1,y2⟩:=key n 0 (by omega)
   exact ⟨ys,y1,by simpa using y2⟩
  ·simp at h
def aggT (P:Program) (t:TypeId):Bool:=match P.underlying t with
 | some (.struct _)=>true
 | some (.array _ _)=>true
 | _=>false
def ShV (P:Program) (D:Nat) (t:TypeId) (x:AV):Prop:=if aggT P t then ∃ xs,x= .agg xs∧Sh P D t xs else Sh P D t [x]
theorem Trod_ShV {D:Nat} {t:TypeId} (hp:plainT P D t=true) {v:Value} {b:Nat} (hok:Value.okWide P W .any b t v) {d:DataW H} {ps:List MemPlace}
 (h:DataW.Trod enc P W 0 (fun _=>true) true t v d ps):∃ x,ShV P D t x∧V (base W) x v:=by
 obtain ⟨fuel,hf⟩:=h
 obtain ⟨hlen,xs,h1,h2⟩:=trod_Sh D t hp fuel _ _ hf
 unfold ShV
 by_cases ha:aggT P t=true
 ·simp only [ha,if_true]
  have hagg:∃ cs,v= .agg cs:=by
   unfold aggT at ha
   unfold Value.okWide at hok
   split at ha
   ·rename_i hu;rw [hu] at hok;obtain ⟨cs,rfl,_⟩:=hok;exact ⟨cs,rfl⟩
   ·rename_i hu;rw [hu] at hok;obtain ⟨cs,rfl,_⟩:=hok;exact ⟨cs,rfl⟩
   ·simp at ha
  obtain ⟨cs,rfl⟩:=hagg
  refine ⟨.agg xs,⟨xs,rfl,h1⟩,.agg xs cs ?_ fun i hi hj=>?_⟩
  ·have:=h2.1;simpa [Value.cells] using this.symm
  ·have:=h2.2 i hi (by simpa [Value.cells] using hj);simpa [Value.cells] using this
 ·simp only [Bool.not_eq_true] at ha
  simp only [ha,Bool.false_eq_true,if_false]
  have hone:P.cellsOf t=1:=by
   cases D with
   | zero=>simp [plainT] at hp
   | succ D=>
    simp only [plainT] at hp
    unfold aggT at ha
    split at hp<;>simp_all
  have hvs:∃ u,v.cells.toList=[u]:=by
   rw [hone] at hlen
   exact List.length_eq_one_iff.1 hlen
  obtain ⟨u,hu⟩:=hvs
  have hvu:v=u:=by
   cases v with
   | agg cs=>
    exfalso
    unfold Value.okWide at hok
    unfold aggT at ha
    cases D with
    | zero=>simp [plainT] at hp
    | succ D=>
     simp only [plainT] at hp
     split at hp
     all_goals rename_i hu'
     all_goals first
      | (rw [hu'] at ha;simp at ha;done)
      | (rw [hu'] at hok;simp [Cell.okWide,hu',Cell.ok] at hok;done)
      | (simp at hp;done)
   | _=>simpa [Value.cells] using hu
  subst hvu
  rw [hu] at h2
  obtain ⟨x,rfl⟩:∃ x,xs=[x]:=List.length_eq_one_iff.1 (by rw [h2.1];rfl)
  exact ⟨x,h1,h2.2 0 (by simp) (by simp)⟩
end
end Go.Am
end
section
namespace Go.Am
open Go.ChangeShapes Go.WideShapes Go.RowKit
def ShVs (P:Program) (D:Nat):List TypeId→List AV→Prop
 | [],[]=>True
 | t::ts,x::xs=>ShV P D t x∧ShVs P D ts xs
 | _,_=>False
section
variable {P:Program} {H:Type} {enc:TypeId×Value→H} {W:World}
theorem args_AV {D:Nat} {b:Nat}:∀ (ts:List TypeId) (vs:List Value) (ds:List (DataW H)) (ps:List MemPlace),DataW.TrodAll enc P W 0 (fun _=>true) true ts vs ds ps→
 (∀ t∈ts,plainT P D t=true)→(∀ (j:Nat) t v,ts[j]?=some t→vs[j]?=some v→Value.okWide P W .any b t v)→
 ∃ xs,ShVs P D ts xs∧vs.length=xs.length∧ds.length=ts.length∧∀ i (hi:i < xs.length) (hj:i < vs.length),V (base W) xs[i] vs[i]
 | [],[],[],_,_,_,_=>⟨[],trivial,rfl,rfl,fun i hi=>by simp at hi⟩
 | t::ts,v::vs,d::ds,ps,h,hp,hok=>by
  obtain ⟨p,q,h1,h2,_⟩:=h
  obtain ⟨x,x1,x2⟩:=Trod_ShV (hp t (by simp)) (hok 0 t v rfl rfl) h1
  obtain ⟨xs,y1,y2,y3,y4⟩:=args_AV ts vs ds q h2 (fun t' ht=>hp t' (by simp [ht])) (fun j t' v' hj hv=>hok (j+1) t' v' (by simpa using hj) (by simpa using hv))
  refine ⟨x::xs,⟨x1,y1⟩,by simp [y2],by simp [y3],fun i hi hj=>?_⟩
  cases i with
  | zero=>exact x2
  | succ i=>exact y4 i (by simpa using hi) (by simpa using hj)
theorem trodAll_stays (hl:laidOutB P=true) {W':World} {sp':Nat→Bool}:∀ (ts:List TypeId) (vs:List Value) (ds:List (DataW H)) (ps:List MemPlace),DataW.TrodAll enc P W 0 (fun _=>true) true ts vs ds ps→
 (∀ t∈ts,P.readableRec t=true∧t < P.types.size)→(∀ p∈ps,W.sameAt W' p)→(∀ p∈ps,sp' p.block=true)→DataW.TrodAll enc P W' 0 sp' true ts vs ds ps
 | [],[],[],_,h,_,_,_=>h
 | t::ts,v::vs,d::ds,ps,h,ht,hs,hp=>by
  obtain ⟨p,q,h1,h2,rfl⟩:=h
  refine ⟨p,q,WideElems.Trod_stays hl (ht t (by simp)).1 (ht t (by simp)).2 h1 (fun x hx=>hs x (by simp [hx])) (fun x hx=>hp x (by simp [hx])),?_,rfl⟩
  exact trodAll_stays hl ts vs ds q h2 (fun t' h'=>ht t' (by simp [h'])) (fun x hx=>hs x (by simp [hx])) (fun x hx=>hp x (by simp [hx]))
theorem post_law {f:Func} {s:ChangeSpec} {apart fresh handsOn again:Bool} {W':World} {args:Array Value} {ds:List (DataW H)} {before:List MemPlace} {tb:TypeId}
 (hW:DataW.Whole enc P f.params.toList s.vars apart W args.toList ds [] before) (hvars:s.vars=[]) (hr:f.resultTypes=#[tb]) (htb:P.underlying tb=some .bool) (hl:laidOutB P=true)
 (hT:∀ t∈f.params.toList,P.readableRec t=true∧t < P.types.size) (hsm:Same W W') (hsz:W.heap.size≤W'.heap.size) (hblk:∀ b,b < W.heap.size→W'.heap[b]?=W.heap[b]?)
 (hspec:(s.fn H (ds++[])).results=[.lit (.bool true)]∧(s.fn H (ds++[])).args=ds∧(s.fn H (ds++[])).vars=[]):
 s.post enc P f apart fresh handsOn again W args (.bool true) W':=by
 have hW':=hW
 obtain ⟨p,q,hA,hV,rfl,hfz,hnd⟩:=hW'
 rw [hvars] at hV
 obtain ⟨_,rfl⟩:=trodVars_none hV
 have hb:Below W.heap.size W W':=⟨hsm.os,hsm.tape,hsm.output,hsz,hblk⟩
 refine post_of_same (pa:=p) (pv:=[]) hW (fun b sp hd=>?_) (fun sp hsp=>?_) (fun sp _=>?_) rfl (hb.frame _) hsm.frz
  (ok_one hr rfl (okWide_bool_mk htb true))
 ·rw [hspec.1,hr]
  exact trodAll_mk1 (shut_bool htb true)
 ·rw [hspec.2.1]
  refine trodAll_stays hl _ _ _ _ hA hT (fun x hx=>hb.same (hW.lt x (by simp [hx]))) (fun x hx=>hsp x (by simp [hx]))
 ·rw [hspec.2.2,hvars]
  exact rfl
theorem law_calls {E:Env} {hp:Nat→Bool} (henv:EnvOk P E) (hglob:∀ c:Ctx,c.w=W→(∀ b,¬ c.O b)→Glob c E.glob) {f:FuncId} {fn:Func} {s:ChangeSpec} {apart fresh handsOn again:Bool} {args:Array Value}
 {ds gs:List (DataW H)} {before:List MemPlace} {tb D b:Nat}
 (hval:∀ (j:Nat) t v,fn.params[j]?=some t→args[j]?=some v→Value.okWide P W .any b t v)
 (hW:DataW.Whole enc P fn.params.toList s.vars apart W args.toList ds gs before) (hvars:s.vars=[]) (hr:fn.resultTypes=#[tb]) (htb:P.underlying tb=some .bool) (hl:laidOutB P=true)
 (hT:∀ t∈fn.params.toList,(P.readableRec t=true∧t < P.types.size)∧plainT P D t=true)
 (hspec:∀ ds:List (DataW H),ds.length=fn.params.size→(s.fn H (ds++[])).results=[.lit (.bool true)]∧(s.fn H (ds++[])).args=ds∧(s.fn H (ds++[])).vars=[])
 (hlaw:∀ xs,ShVs P D fn.params.toList xs→Pu E hp f xs (.bool true)):
 Calls P f args W fun e W'=>∃ v,e= .returned v∧s.post enc P fn apart fresh handsOn again W args v W':=by
 have hgs:gs=[]:=by
  obtain ⟨_,_,_,hV,_⟩:=hW
  rw [hvars] at hV
  exact (trodVars_none hV).1
 subst hgs
 obtain ⟨p,q,hA,_⟩:=id hW
 obtain ⟨xs,x1,x2,x3,x4⟩:=args_AV (D:=D) (b:=b) _ _ _ _ hA (fun t ht=>(hT t ht).2) (fun j t v hj hv=>hval j t v (by simpa using hj) (by simpa using hv))
 have hc:=(hlaw xs x1).calls henv (c:=base W) (fun b h=>h) rfl (hglob _ rfl fun b h=>h) x2 x4
 have e0:args.toList.toArray=args:=by simp
 rw [e0] at hc
 refine hc.mono ?_
 rintro e W' ⟨v,rfl,⟨hsz,hsm⟩,hblk,_,hres⟩
 have hv:=hres ⟨W',fun _=>False,id,id,[]⟩ rfl (fun b h=>h)
 cases hv
 exact ⟨_,rfl,post_law hW hvars hr htb hl (fun t ht=>(hT t ht).1) hsm hsz hblk (hspec ds (by simpa using x3))⟩
end
end Go.Am
end
section
namespace Go.Am
open Go.Am.As
def inK (k:IntKind) (n:Int):Prop:=k.min≤n∧n≤k.max
theorem wf_inK {k:IntKind} {n:Int} (h:(Lit.int k n).wf=true):inK k n:=by
 unfold inK;simpa [Lit.wf] using h
section
variable {P:Program} {D:Nat}
theorem sh_int {t:TypeId} {k:IntKind} {xs:List AV} (hu:P.underlying t=some (.int k)) (h:Sh P (D+1) t xs):∃ n,xs=[.int k n]∧inK k n:=by
 simp only [Sh,hu] at h
 obtain ⟨n,h1,h2⟩:=h
 exact ⟨n,h1,wf_inK h2⟩
theorem sh_bool {t:TypeId} {xs:List AV} (hu:P.underlying t=some .bool) (h:Sh P (D+1) t xs):∃ b,xs=[.bool b]:=by
 simpa only [Sh,hu] using h
theorem sh_map {α:Type} {C:α→List AV} {R:α→Prop} {S:List AV→Prop} (he:∀ c,S c→∃ a,c=C a∧R a):∀ es:List (List AV),(∀ c∈es,S c)→∃ l:List α,es=l.map C∧∀ a∈l,R a
 | [],_=>⟨[],rfl,by simp⟩
 | c::es,h=>by
  obtain ⟨a,h1,h2⟩:=he c (h c (by simp))
  obtain ⟨l,h3,h4⟩:=sh_map he es fun c hc=>h c (by simp [hc])
  exact ⟨a::l,by simp [h1,h3],by simpa using ⟨h2,h4⟩⟩
theorem sh_slice {α:Type} {C:α→List AV} {R:α→Prop} {t e:TypeId} {xs:List AV} (hu:P.underlying t=some (.slice e)) (h:Sh P (D+1) t xs) (he:∀ c,Sh P D e c→∃ a,c=C a∧R a):
 ∃ l:List α,xs=[.ro (l.map C)]∧l.length≤maxLen∧∀ a∈l,R a:=by
 simp only [Sh,hu] at h
 obtain ⟨es,h1,h2,h3⟩:=h
 obtain ⟨l,h4,h5⟩:=sh_map he es h3
 subst h4
 exact ⟨l,h1,by simpa using h2,h5⟩
theorem sh_struct2 {t:TypeId} {fs:Array Field} {f1 f2:Field} {xs:List AV} (hu:P.underlying t=some (.struct fs)) (hf:fs.toList=[f1,f2]) (h:Sh P (D+1) t xs):
 ∃ a b,xs=a++b∧Sh P D f1.type a∧Sh P D f2.type b:=by
 simp only [Sh,hu,hf,ShL] at h
 obtain ⟨a,c,h1,h2,b,d,h3,h4,h5⟩:=h
 subst h5;subst h3
 exact ⟨a,b,by simpa using h1,h2,h4⟩
theorem shV_agg {t:TypeId} {x:AV} (ha:aggT P t=true) (h:ShV P D t x):∃ xs,x= .agg xs∧Sh P D t xs:=by simpa [ShV,ha] using h
end
end Go.Am
end
section
namespace G33
open Go.Proofs Go Go.Pl Go.Am Go.Am.As
theorem compF_n {P:Program} {hs:List (Nat×Hint)} {n:Nat} {fn:Func} {rf:RF} (h:compF P hs n fn=some rf):rf.nargs=n:=by
 unfold compF at h
 split at h
 ·split at h
  ·cases h
  ·injection h with h;subst h;rfl
 ·cases h
theorem env_of (P:Program) (H:Nat→List (Nat×Hint)) {G:Nat→List AV} (hG:∀ g,AV.bels 0 (G g)=true):EnvOk P { fns:=fnsOf P H,glob:=G }:=by
 refine ⟨fun f rf h=>?_,hG⟩
 have h:fnsOf P H f=some rf:=h
 unfold fnsOf at h
 cases hfn:P.funcs[f]? with
 | none=>rw [hfn] at h;cases h
 | some fn=>
  rw [hfn] at h
  exact ⟨fn,H f,rfl,by rw [compF_n h];exact h⟩
theorem env_ok:EnvOk Tryz.prog E0:=env_of Tryz.prog hs (fun g=>by show AV.bels 0 (if g=0 then _ else _)=true;split<;>rfl)
end G33
end
section
namespace G33
set_option maxRecDepth 100000
open Go.Proofs Go Go.Pl Go.Am Go.Am.As
theorem stroke_of {D:Nat} {xs:List AV} (h:Sh Tryz.prog (D+2) 66 xs):∃ y:SStroke,xs=cSStroke y:=by
 obtain ⟨x,y,rfl,h1,h2⟩:=sh_struct2 Tryz.underlying66 rfl h
 obtain ⟨n,rfl,_⟩:=sh_int Tryz.underlying3 h1
 obtain ⟨b,rfl⟩:=sh_bool Tryz.underlying4 h2
 exact ⟨⟨n,b⟩,rfl⟩
theorem step_of {D:Nat} {xs:List AV} (h:Sh Tryz.prog (D+4) 75 xs):∃ x:SStep,xs=cSStep x:=by
 obtain ⟨x,y,rfl,h1,h2⟩:=sh_struct2 Tryz.underlying75 rfl h
 obtain ⟨l,rfl,_,_⟩:=sh_slice (C:=cSStroke) (R:=fun _=>True) Tryz.underlying59 h1 (fun c hc=>by
  obtain ⟨y,h⟩:=stroke_of hc
  exact ⟨y,h,trivial⟩)
 obtain ⟨n,rfl,_⟩:=sh_int Tryz.underlying3 h2
 exact ⟨⟨l,n⟩,rfl⟩
theorem seq_of {D:Nat} {xs:List AV} (h:Sh Tryz.prog (D+6) 24 xs):∃ s:SSequence,xs=cSSequence s:=by
 obtain ⟨x,y,rfl,h1,h2⟩:=sh_struct2 Tryz.underlying24 rfl h
 obtain ⟨n,rfl,_⟩:=sh_int Tryz.underlying3 h1
 obtain ⟨l,rfl,_,_⟩:=sh_slice (C:=cSStep) (R:=fun _:SStep=>True) Tryz.underlying22 h2 (fun c hc=>by
  obtain ⟨x,h⟩:=step_of hc
  exact ⟨x,h,trivial⟩)
 exact ⟨⟨n,l⟩,rfl⟩
theorem own:ownKnob Tryz.prog.godebug=none:=by kernel_rfl
theorem laidOut:laidOutB Tryz.prog=true:=by kernel_rfl
end G33
end
