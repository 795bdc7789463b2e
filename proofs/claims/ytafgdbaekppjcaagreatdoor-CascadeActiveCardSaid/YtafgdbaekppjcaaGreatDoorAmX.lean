/- Parts of my machine and its laws, joined: AmX AmXa. No condition. -/
import Derived.Test.YtafgdbaekppjcaaGreatDoorAmW
set_option linter.unusedSectionVars false
set_option linter.unusedVariables false
set_option linter.unusedSimpArgs false
section
namespace Go.Am
section
variable {P:Program} {E:Env}
theorem TR.put {c:Ctx} {t:List AV} {a:Act} (h:TR c t a.tmps) (d:Option Nat) {x:AV} {v:Value} (hx:V c x v):TR c (cY t d x) (a.put d v).tmps:=by
 cases d with
 | none=>exact h
 | some d=>
  refine ⟨by simp [cY,Act.put,h.1],fun i hi hj=>?_⟩;have hi':i < t.length:=by simpa [cY] using hi
  have hj':i < a.tmps.size:=by simpa [Act.put] using hj
  by_cases hd:d=i
  ·subst hd;have e1:(cY t (some d) x)[d]'hi=x:=by simp [cY]
   have e2:(a.put (some d) v).tmps[d]'hj=v:=by simp [Act.put]
   rw [e1,e2];exact hx
  ·have e1:(cY t (some d) x)[i]'hi=t[i]:=by simp only [cY];rw [zbk hd]
   have e2:(a.put (some d) v).tmps[i]'hj=a.tmps[i]:=by simp only [Act.put];rw [Array.getElem_setIfInBounds_ne hj' hd]
   rw [e1,e2];exact h.2 i hi' hj'
theorem eM (a:Act) (d:Option Nat) (v:Value):(a.put d v).defers=a.defers:=by cases d<;>rfl
theorem BC (c:Ctx):V c (.bl []) undef:= .bl [] #[] rfl fun i hi=>by simp at hi
theorem sU {c:Ctx} {ops:Array Oper} {t:List AV} {a:Act} (ht:TR c t a.tmps) (o:Oper) {b:Bool} (h:want t (aE P ops o).guard=some b):
 Region.wanted o (yielded ops a.tmps)=b\/((aE P ops o).op= .bad/\(aE P ops o).guard=none):=by
 unfold aE at h ⊢
 cases hg:o.guard with
 | none=>simp only [hg,want] at h;injection h with h;left;simp [Region.wanted,hg,h]
 | some g=>
  obtain ⟨j,q⟩:=g;simp only [hg] at h ⊢
  cases hd:wm ops j with
  | none=>right;exact ⟨rfl,rfl⟩
  | some d=>
   left;simp only [hd,want] at h;have ET:(ops[j]?).bind (·.dst)=some d:=by
    unfold wm at hd;split at hd
    ·rename_i o' ho';rw [ho'];exact hd
    ·simp at hd
   split at h
   ·rename_i b' hb';injection h with h
    obtain ⟨hi,he⟩:=getD_some hb' (by simp);have hi':d < a.tmps.size:=by rw [ht.1];exact hi
    have hv:=ht.2 d hi hi';rw [he] at hv;have:a.tmps[d]= .bool b':=by
     generalize a.tmps[d]=u at hv ⊢
     cases hv;rfl
    simp only [Region.wanted,hg,yielded,ET,za,zaj hi',this];rw [<-h]
    cases b'<;>cases q<;>rfl
   ·rename_i hb';injection h with h
    obtain ⟨hi,he⟩:=getD_some hb' (by simp);have hi':d < a.tmps.size:=by rw [ht.1];exact hi
    have hv:=ht.2 d hi hi';rw [he] at hv;have:a.tmps[d]= .tuple #[]:=by
     generalize a.tmps[d]=u at hv ⊢
     cases hv with
     | bl _ vs hs _=>
      have:vs=#[]:=by simpa using hs
      rw [this]
    simp only [Region.wanted,hg,yielded,ET,za,zaj hi',this];rw [<-h];rfl
   ·simp at h
theorem tV (o:Oper):(∀ f args,cq P o= .call f args->∃ c,o.op= .call c/\c.callee= .value (.func f)/\args=c.args.toList.map cx)/\
 (∀ x args,cq P o= .gr x args->∃ c y,o.op= .call c/\c.callee= .value y/\x=cx y/\args=c.args.toList.map cx):=by
 unfold cq
 cases hop:o.op with
 | call cl=>
  simp only;constructor
  ·intro f args h;split at h
   ·rename_i f' hc;injection h with h1 h2
    exact ⟨cl,rfl,by rw [hc,h1],h2.symm⟩
   ·simp at h
   ·(repeat' split at h)<;>simp at h
   ·(repeat' split at h)<;>simp at h
   ·simp at h
   ·simp at h
   ·(repeat' split at h)<;>simp at h
   ·simp at h
  ·intro x args h;split at h
   ·simp at h
   ·rename_i y _ hc;injection h with h1 h2
    exact ⟨cl,y,rfl,hc,h1.symm,h2.symm⟩
   ·(repeat' split at h)<;>simp at h
   ·(repeat' split at h)<;>simp at h
   ·simp at h
   ·simp at h
   ·(repeat' split at h)<;>simp at h
   ·simp at h
 | binOp op ty x y yt=>
  simp only;constructor
  ·intro f args h;split at h
   ·unfold fq at h;(repeat' split at h)<;>simp at h
   ·unfold fq at h;(repeat' split at h)<;>simp at h
   ·simp at h
  ·intro f args h;split at h
   ·unfold fq at h;(repeat' split at h)<;>simp at h
   ·unfold fq at h;(repeat' split at h)<;>simp at h
   ·simp at h
 | makeFunc fn first cap=>cases fn<;>simp only<;>constructor<;>intro f args h<;>(repeat' split at h)<;>simp at h
 | slice ty x lo hi mx=>cases mx<;>simp only<;>constructor<;>intro f args h<;>(repeat' split at h)<;>simp at h
 | makeMap ty r=>cases r<;>simp only<;>constructor<;>intro f args h<;>simp at h
 | next x b=>cases b<;>simp only<;>constructor<;>intro f args h<;>simp at h
 | _=>simp only;constructor<;>intro f args h<;>(repeat' split at h)<;>simp at h
theorem sZ {f:Nat} {fn:Func} (hf:P.funcs[f]?=some fn) (hn:(fn.name== "runtime.NumGoroutine")=false) {code:Code} (hb:fn.body=some code) (args:Array Value) (w:World):
 (callFunc f args).run P w= .ok (.enter f args) w:=by
 have hn':¬ fn.name= "runtime.NumGoroutine" :=by simpa using hn
 unfold callFunc;simp [hf,hn',hb]
variable {ex:EX}
theorem Nw {G:Nat->List AV} {t:List AV} {H:List Obj} {x:RO} (h:x.ef=false) (p q:Nat):evalW G t H p x=evalW G t H q x:=by
 cases x<;>first | rfl | (simp [RO.ef] at h)
theorem xJ (ck:iJ P E) (fX:∀ hs code,Av P E ex (comp P hs code) code) {hp:Nat->Bool} {cH:CH} (N8:cH=Aw E.fns ex\/cH=kQ) {ρ:Option Nat} {lo:Nat->Prop} {F:Nat->Prop} {c:Ctx} {t:List AV} {H:List Obj} {a:Act}
 (h:FR lo (fo P F) E.aJ c ⟨t,H⟩ a) (o:Oper) {v:AV} {H':List Obj} {pl:Nat} (dm:(cq P o).ef=true->Room H pl) (eA:evalOp E.aJ hp (mU E.fns ex) cH pl (cq P o) t H=some (v,H'))
 {next:Act->World->Prop} {Q:Exit->Act->World->Prop} (hnext:∀ d u,FR lo (fo P F) E.aJ d ⟨cY t o.dst v,H'⟩ (a.put o.dst u)->cW c.H.length c d->next (a.put o.dst u) d.w):
 o.wpIn (wd ρ) 0 P a c.w next Q:=by
 have EA:∀ q,o.op≠ .defer q:=by
  intro q hq;have:cq P o= .bad:=by unfold cq;rw [hq]
  rw [this] at eA;simp [evalOp,RO.kind,evalW] at eA
 refine ⟨fun _ _=>trivial,?_⟩;rw [Oper.semAt_eq _ _ _ EA];have hH:c.H=H:=h.hH;unfold evalOp at eA
 cases hk:(cq P o).kind with
 | pure=>
  rw [hk] at eA;simp only at eA;split at eA
  case h_2=>simp at eA
  rename_i u hu;simp only [za1,za4] at eA;obtain ⟨rfl,rfl⟩:=eA;obtain ⟨v',e1,e2⟩:=C4 (P:=P) h.sr.hr h.tr h.gl o (.inl hu);rw [e1];exact hnext c _ ⟨h.sr,h.tr.put o.dst e2,hH,by rw [eM];exact h.df,h.gl⟩ (cW.refl _ _)
 | read=>
  rw [hk] at eA;simp only at eA;split at eA
  case h_2=>simp at eA
  rename_i u hu;simp only [za1,za4] at eA;obtain ⟨rfl,rfl⟩:=eA;rw [<-hH] at hu;obtain ⟨v',e1,e2⟩:=C4 (P:=P) h.sr.hr h.tr h.gl o (.inr hu);rw [e1];exact hnext c _ ⟨h.sr,h.tr.put o.dst e2,hH,by rw [eM];exact h.df,h.gl⟩ (cW.refl _ _)
 | write=>
  rw [hk] at eA;simp only at eA;have ad0:∃ q,Room H q/\evalW E.aJ t H q (cq P o)=some (v,H'):=by
   cases ha:(cq P o).ef with
   | true=>exact ⟨pl,dm ha,eA⟩
   | false=>exact ⟨H.length,.inr rfl,by rw [Nw ha H.length pl];exact eA⟩
  obtain ⟨q,hq,eA⟩:=ad0;rw [<-hH] at eA hq;obtain ⟨d,d1,d2,d3⟩:=Ng (P:=P) h.sr h.tr h.gl o hq eA;have B4:gY d E.aJ:=h.gl.oO ck.aJ (d2.2.2 0);rcases d3 with ⟨v',e1,e2⟩ | ⟨e1,rfl⟩
  ·rw [e1];exact hnext d _ ⟨d2.1,(h.tr.hJ d2.2.1).put o.dst e2,d1,by rw [eM];exact h.df.oO h.sr (d2.2.2 0),B4⟩ (d2.2.2 _)
  ·rw [e1];exact hnext d _ ⟨d2.1,(h.tr.hJ d2.2.1).put o.dst (BC d),d1,by rw [eM];exact h.df.oO h.sr (d2.2.2 0),B4⟩ (d2.2.2 _)
 | call=>
  rw [hk] at eA;simp only at eA;have fin:∀ (f:Nat) (xs:List AV) (vs:List Value) (args:Array Value),args=vs.toArray->bK hp (mU E.fns ex) cH f xs H=some (v,H')->vs.length=xs.length->
   (∀ i (hi:i < xs.length) (hj:i < vs.length),V c xs[i] vs[i])->(execOp a.eval o).run P c.w=(callFunc f args).run P c.w->o.uponIn (wd ρ) 0 P a next Q ((execOp a.eval o).run P c.w):=by
   intro f xs vs args hargs hd hl hv hrun;subst hargs;rw [<-hH] at hd;have zh:=FN ck fX N8 hd h.sr h.gl hl hv;have hent:∃ fn code,P.funcs[f]?=some fn/\(fn.name== "runtime.NumGoroutine")=false/\fn.body=some code:=by
    have:∃ rf,E.fns f=some rf:=by
     unfold bK at hd;have hh:∀ r,cH (some f) xs c.H=some r->∃ rf,E.fns f=some rf:=by
      intro r hr;rcases N8 with rfl | rfl
      ·unfold Aw at hr;dsimp only at hr;split at hr
       ·rename_i rf si;exact ⟨rf,si⟩
       ·simp at hr
      ·simp [kQ] at hr
     split at hd
     ·exact hh _ hd
     ·split at hd
      ·split at hd
       ·rename_i r hr;unfold mU at hr;split at hr
        ·rename_i rf si;exact ⟨rf,si⟩
        ·simp at hr
       ·simp at hd
      ·exact hh _ hd
    obtain ⟨rf,si⟩:=this;obtain ⟨fn,hs,hf,hc⟩:=ck.fns f rf si;obtain ⟨code,hb,hn,_⟩:=jV hc;exact ⟨fn,code,hf,hn,hb⟩
   obtain ⟨fn,code,hf,hn,hb⟩:=hent;rw [hrun,sZ hf hn hb];refine ⟨fun h=>by simp [wd,Fence.wide] at h,wQ (zh.mono ?_)⟩;rintro e w' ⟨u,d,rfl,rfl,d1,d2,d3,d4⟩;refine hnext d _ ⟨d2,?_,d1,by rw [eM];exact h.df.oO h.sr d3,h.gl.oO ck.aJ d3⟩ d3;refine TR.put ⟨h.tr.1,fun i hi hj=>d3.vals _ _ ((h.tr.2 i hi hj).bp) (h.tr.2 i hi hj)⟩ o.dst d4
  split at eA
  ·rename_i f args hc;obtain ⟨cl,hop,mh,rfl⟩:=(tV (P:=P) o).1 f args hc;refine fin f _ (cl.args.toList.map a.eval) ((cl.args.map a.eval)++#[]) (by apply zbc;simp) eA (by simp) (sJ h.tr h.gl cl.args.toList) ?_;simp only [execOp,hop,resolve,mh,Act.eval,Deferred.ofValue];simp [invoke]
  ·rename_i x args hc;obtain ⟨cl,y,hop,mh,rfl,rfl⟩:=(tV (P:=P) o).2 x args hc;split at eA
   case h_4=>simp at eA
   case h_2=>
    rename_i f cap JB;have hy:=vJ h.tr h.gl y;have J5:(cx y).ev E.aJ t= .b8 f cap:=JB;rw [show (⟨t,H⟩:St).tmps=t from rfl,J5] at hy;generalize SI:a.eval y=yv at hy
    cases hy with
    | b8 _ _ cs hs hv=>
     refine fin f _ (cs.toList++cl.args.toList.map a.eval) ((cs++cl.args.map a.eval)++#[]) (by apply zbc;simp) eA (by simp [hs]) ?_ ?_
     ·intro i hi hj;have ha:=sJ h.tr h.gl cl.args.toList;by_cases hlt:i < cap.length
      ·rw [zaM hlt,zaM (by simp;omega)];simpa using hv i hlt (by omega)
      ·have hcs:cs.toList.length=cap.length:=by simp [hs]
       rw [zaP (by omega),zaP (by omega)];simp only [hcs];exact ha _ _ _
     ·simp only [execOp,hop,resolve,mh,SI,Deferred.ofValue];simp [invoke]
   case h_3=>
    rename_i l JB;have eA:cH none (.fI l::(cl.args.toList.map cx).map (·.ev E.aJ t)) H=some (v,H'):=eA;rcases N8 with rfl | rfl
    case inr=>simp [kQ] at eA
    have hr:V7 ex (.fI l::(cl.args.toList.map cx).map (·.ev E.aJ t)) c.H=some (v,H'):=by rw [hH];exact eA
    have hy:=vJ h.tr h.gl y;have J5:(cx y).ev E.aJ t= .fI l:=JB;rw [show (⟨t,H⟩:St).tmps=t from rfl,J5] at hy;generalize SI:a.eval y=yv at hy
    cases hy with
    | fI _ b hb=>
     have hvs:=sJ h.tr h.gl cl.args.toList;obtain ⟨fn,tmps,b6,body,hrun,Vq⟩:=IY ck fX h.sr h.gl hb (vs:=(cl.args.toList.map a.eval).toArray) (by simp) (fun i hi hj=>hvs i hi (by simpa using hj)) hr;have ad1:(execOp a.eval o).run P c.w= .ok (.round b fn tmps b6 body) c.w:=by
      rw [<-hrun];have:(cl.args.toList.map a.eval).toArray=cl.args.map a.eval:=by apply zbc;simp
      rw [this];simp only [execOp,hop,resolve,mh,SI,Deferred.ofValue];simp [invoke]
     rw [ad1,Oper.uponIn_round];have QW:RoundIn (wd ρ) 0 P b fn tmps b6 body c.w _:=Vq;refine ⟨fun h=>by simp [wd,Fence.wide] at h,QW.mono ?_⟩;rintro e w' ⟨u,d,rfl,rfl,d1,d2,d3,d4⟩;refine hnext d _ ⟨d2,?_,d1,by rw [eM];exact h.df.oO h.sr d3,h.gl.oO ck.aJ d3⟩ d3;exact TR.put ⟨h.tr.1,fun i hi hj=>d3.vals _ _ ((h.tr.2 i hi hj).bp) (h.tr.2 i hi hj)⟩ o.dst d4
   rename_i f cap JB;have hy:=vJ h.tr h.gl y;have J5:(cx y).ev E.aJ t= .fn f cap:=JB;rw [show (⟨t,H⟩:St).tmps=t from rfl,J5] at hy;generalize SI:a.eval y=yv at hy
   cases hy with
   | fn _ _ cs hs hv=>
    refine fin f _ (cl.args.toList.map a.eval++cs.toList) ((#[]++cl.args.map a.eval)++cs) (by apply zbc;simp) eA (by simp [hs]) ?_ ?_
    ·intro i hi hj;have ha:=sJ h.tr h.gl cl.args.toList;by_cases hlt:i < cl.args.toList.length
     ·rw [zaM (by simpa using hlt),zaM (by simpa using hlt)];exact ha i (by simpa using hlt) (by simpa using hlt)
     ·rw [zaP (by simpa using hlt),zaP (by simpa using hlt)];simp only [zah,zbw];exact hv _ _ _
    ·simp only [execOp,hop,resolve,mh,SI,Deferred.ofValue];simp [invoke]
  ·simp at eA
theorem FU (ck:iJ P E) (fX:∀ hs code,Av P E ex (comp P hs code) code) {ρ:Option Nat} {lo:Nat->Prop} {F:Nat->Prop} {c:Ctx} {t:List AV} {H:List Obj} {a:Act}
 (h:FR lo (fo P F) E.aJ c ⟨t,H⟩ a) (o:Oper) {f:Nat} {args:List RX} (hco:cq P o= .call f args) {v:AV} {H':List Obj} {pl:Nat} (dm:Room H pl)
 (eA:mkObj (mU E.fns ex) f (args.map (·.ev E.aJ t)) pl H=some (v,H'))
 {next:Act->World->Prop} {Q:Exit->Act->World->Prop} (hnext:∀ d u,FR lo (fo P F) E.aJ d ⟨cY t o.dst v,H'⟩ (a.put o.dst u)->cW c.H.length c d->next (a.put o.dst u) d.w):
 o.wpIn (wd ρ) 0 P a c.w next Q:=by
 have EA:∀ q,o.op≠ .defer q:=by
  intro q hq;have:cq P o= .bad:=by unfold cq;rw [hq]
  rw [this] at hco;simp at hco
 refine ⟨fun _ _=>trivial,?_⟩;rw [Oper.semAt_eq _ _ _ EA];have hH:c.H=H:=h.hH;obtain ⟨cl,hop,mh,rfl⟩:=(tV (P:=P) o).1 f args hco;rw [<-hH] at eA dm;have hvs:=sJ h.tr h.gl cl.args.toList;have zh:=Nr ck fX eA dm h.sr h.gl (vs:=cl.args.toList.map a.eval) (by simp) hvs;have hent:∃ fn code,P.funcs[f]?=some fn/\(fn.name== "runtime.NumGoroutine")=false/\fn.body=some code:=by
  have:∃ rf,E.fns f=some rf:=by
   unfold mkObj at eA;split at eA
   case h_2=>simp at eA
   split at eA
   case h_2=>simp at eA
   rename_i hr;unfold mU at hr;split at hr
   ·rename_i rf si;exact ⟨rf,si⟩
   ·simp at hr
  obtain ⟨rf,si⟩:=this;obtain ⟨fn,hs,hf,hc⟩:=ck.fns f rf si;obtain ⟨code,hb,hn,_⟩:=jV hc;exact ⟨fn,code,hf,hn,hb⟩
 obtain ⟨fn,code,hf,hn,hb⟩:=hent;have hrun:(execOp a.eval o).run P c.w=(callFunc f (cl.args.toList.map a.eval).toArray).run P c.w:=by
  have:(cl.args.toList.map a.eval).toArray=(cl.args.map a.eval)++#[]:=by apply zbc;simp
  rw [this];simp only [execOp,hop,resolve,mh,Act.eval,Deferred.ofValue];simp [invoke]
 rw [hrun,sZ hf hn hb];refine ⟨fun h=>by simp [wd,Fence.wide] at h,wQ (zh.mono ?_)⟩;rintro e w' ⟨u,d,rfl,rfl,d1,d2,dV,d3,d4⟩;refine hnext d _ ⟨d2,?_,d1,by rw [eM];exact h.df.oO h.sr (d3 0),h.gl.oO ck.aJ (d3 0)⟩ (d3 _);exact TR.put ⟨h.tr.1,fun i hi hj=>dV _ _ (h.tr.2 i hi hj)⟩ o.dst d4
theorem gz (ck:iJ P E) (fX:∀ hs code,Av P E ex (comp P hs code) code) {hp:Nat->Bool} {cH:CH} (N8:cH=Aw E.fns ex\/cH=kQ) (ops:Array Oper) (rl:List bH) (l2:List Nat) {ρ:Option Nat} {lo:Nat->Prop} {F:Nat->Prop} {base:Nat} {Q:Exit->Act->World->Prop}:
 ∀ (l:List Nat) {c:Ctx} {t t':List AV} {H H':List Obj} {a:Act},(∀ i∈l,∃ h:i < ops.size,rl.getD i default=aE P ops ops[i])->FR lo (fo P F) E.aJ c ⟨t,H⟩ a->base<=c.H.length->
  bO E.aJ hp (mU E.fns ex) cH (l.map fun i=>rl.getD i default) t H=some (t',H')->
  (∀ d a',FR lo (fo P F) E.aJ d ⟨t',H'⟩ a'->cW base c d->wpOpsIn (wd ρ) 0 P ops Q l2 a' d.w)->wpOpsIn (wd ρ) 0 P ops Q (l++l2) a c.w
 | [],c,t,t',H,H',a,_,h,_,hr,hQ=>by
  simp only [List.map_nil,bO,za1,za4] at hr;obtain ⟨rfl,rfl⟩:=hr;exact hQ c a h (cW.refl _ _)
 | i::l,c,t,t',H,H',a,hl,h,hbase,hr,hQ=>by
  obtain ⟨hi,aP⟩:=hl i (by simp);have hoi:ops[i]?=some ops[i]:=zaj hi;simp only [za5,aP] at hr;simp only [zaH,wpOpsIn,hoi];generalize ops[i]=o at hr ⊢;have ET:(aE P ops o).dst=o.dst:=by
   unfold aE
   cases hg:o.guard with
   | none=>rfl
   | some g=>obtain ⟨j,q⟩:=g;simp only;cases hd:wm ops j<;>rfl
  have hop:(aE P ops o).op=cq P o\/(aE P ops o).op= .bad:=by
   unfold aE
   cases hg:o.guard with
   | none=>left;rfl
   | some g=>
    obtain ⟨j,q⟩:=g;simp only
    cases hd:wm ops j with
    | none=>right;rfl
    | some d=>left;rfl
  have CC:∀ x,evalOp E.aJ hp (mU E.fns ex) cH H.length .bad t H=some x->False:=by
   intro x hx;simp [evalOp,RO.kind,evalW] at hx
  rw [bO] at hr;split at hr
  ·rename_i hw;split at hr
   case h_2=>simp at hr
   rename_i v H1 eA;rcases hop with hop | hop
   ·rw [hop] at eA;rw [ET] at hr;rcases sU (P:=P) h.tr o hw with nG | ⟨hb,_⟩
    ·rw [if_pos nG];refine xJ ck fX N8 h o (fun _=> .inr rfl) eA fun d a' hd aU=>?_
     refine gz ck fX N8 ops rl l2 l (fun j hj=>hl j (by simp [hj])) hd (zaK hbase (aU.len (za6 _))) hr fun d' ED hd' jI=>hQ d' ED hd' ?_
     exact cW.trans ⟨aU.size,aU.keep,fun x v hx=>aU.vals x v (fu hbase x hx),aU.owned,fun hn=>zaK hn (aU.len (za6 _)),aU.same,aU.jK⟩ jI
    ·rw [<-hop,hb] at eA;exact (CC _ eA).elim
   ·rw [hop] at eA;exact (CC _ eA).elim
  ·rename_i hw;rw [ET] at hr;have nG:Region.wanted o (yielded ops a.tmps)=false:=by
    rcases sU (P:=P) h.tr o hw with e | ⟨_,e⟩
    ·exact e
    ·rw [e] at hw;simp [want] at hw
   rw [if_neg (by simp [nG])];refine ⟨fun _ _=>trivial,?_⟩;exact gz ck fX N8 ops rl l2 l (fun j hj=>hl j (by simp [hj])) ⟨h.sr,h.tr.put o.dst (BC c),h.hH,by rw [eM];exact h.df,h.gl⟩ hbase hr hQ
  ·simp at hr
theorem Nx (ops:Array Oper) (o:Oper):(aE P ops o).dst=o.dst:=by
 unfold aE
 cases hg:o.guard with
 | none=>rfl
 | some g=>obtain ⟨j,q⟩:=g;simp only;cases hd:wm ops j<;>rfl
theorem oy (ops:Array Oper) (o:Oper):(aE P ops o).op=cq P o\/(aE P ops o).op= .bad:=by
 unfold aE
 cases hg:o.guard with
 | none=>left;rfl
 | some g=>
  obtain ⟨j,q⟩:=g;simp only
  cases hd:wm ops j with
  | none=>right;rfl
  | some d=>left;rfl
theorem I6 (o:Oper) (f:Nat) (args:List RX):cq P o≠ .sj f args:=by
 intro h;unfold cq at h
 cases hop:o.op with
 | binOp op ty x y yt=>
  simp only [hop] at h;split at h
  ·unfold fq at h;(repeat' split at h)<;>simp at h
  ·unfold fq at h;(repeat' split at h)<;>simp at h
  ·simp at h
 | makeFunc fn first cap=>cases fn<;>simp only [hop] at h<;>(repeat' split at h)<;>simp at h
 | slice ty x lo hi mx=>cases mx<;>simp only [hop] at h<;>(repeat' split at h)<;>simp at h
 | makeMap ty r=>cases r<;>simp only [hop] at h<;>simp at h
 | next x b=>cases b<;>simp only [hop] at h<;>simp at h
 | _=>simp only [hop] at h;(repeat' split at h)<;>simp at h
theorem Eb (o:Oper) (sz b:Nat) (y z:RX):cq P o≠ .md sz b y z:=by
 intro h;unfold cq at h
 cases hop:o.op with
 | binOp op ty x y yt=>
  simp only [hop] at h;split at h
  ·unfold fq at h;(repeat' split at h)<;>simp at h
  ·unfold fq at h;(repeat' split at h)<;>simp at h
  ·simp at h
 | makeFunc fn first cap=>cases fn<;>simp only [hop] at h<;>(repeat' split at h)<;>simp at h
 | slice ty x lo hi mx=>cases mx<;>simp only [hop] at h<;>(repeat' split at h)<;>simp at h
 | makeMap ty r=>cases r<;>simp only [hop] at h<;>simp at h
 | next x b=>cases b<;>simp only [hop] at h<;>simp at h
 | _=>simp only [hop] at h;(repeat' split at h)<;>simp at h
theorem Ec (o:Oper) (sz:Nat) (z:List AV) (len:Nat) (parts:List (Nat×RX)):cq P o≠ .mY sz z len parts:=by
 intro h;unfold cq at h
 cases hop:o.op with
 | binOp op ty x y yt=>
  simp only [hop] at h;split at h
  ·unfold fq at h;(repeat' split at h)<;>simp at h
  ·unfold fq at h;(repeat' split at h)<;>simp at h
  ·simp at h
 | makeFunc fn first cap=>cases fn<;>simp only [hop] at h<;>(repeat' split at h)<;>simp at h
 | slice ty x lo hi mx=>cases mx<;>simp only [hop] at h<;>(repeat' split at h)<;>simp at h
 | makeMap ty r=>cases r<;>simp only [hop] at h<;>simp at h
 | next x b=>cases b<;>simp only [hop] at h<;>simp at h
 | _=>simp only [hop] at h;(repeat' split at h)<;>simp at h
theorem QX {lo:Nat->Prop} {F:Fo} {G:Nat->List AV} {c:Ctx} (hG:∀ g,AV.aT 0 (G g)=true) {t:List AV} {d:Option Nat} {v r:AV} {H1 H2:List Obj} {a:Act} (h:FR lo F G c ⟨cY t d v,H1⟩ a)
 (hf:ke 0 ⟨[v],H1⟩=some ⟨[r],H2⟩):∃ e:Ctx,e.w=c.w/\FR lo F G e ⟨cY t d r,H2⟩ a/\∀ n,cW n c e:=by
 have out:cY t d v=t->cY t d r=t->∃ e:Ctx,e.w=c.w/\FR lo F G e ⟨cY t d r,H2⟩ a/\∀ n,cW n c e:=by
  intro e1 e2;rw [e1] at h;rw [e2];simp only [ke,List.getD_cons_zero] at hf;split at hf
  ·split at hf
   case h_2=>simp at hf
   rename_i sz es hl;obtain ⟨nl,hid⟩:=bB hl;split at hf
   case isFalse=>simp at hf
   rename_i hc;simp only [za1,St.mk.injEq] at hf;obtain ⟨_,rfl⟩:=hf;exact FF hG h hid (by have:=hc.2.2;simpa [cD,hid] using this)
  ·simp only [za1,St.mk.injEq] at hf;obtain ⟨_,rfl⟩:=hf;exact ⟨c,rfl,h,fun n=>cW.refl n c⟩
 cases d with
 | none=>exact out rfl rfl
 | some d=>
  rcases zaf d t.length with hd | hd
  ·have hg:(t.set d v).getD d .any=v:=by simp [List.getD,hd]
   have hf':ke d ⟨t.set d v,H1⟩=some ⟨t.set d r,H2⟩:=by
    simp only [ke,List.getD_cons_zero] at hf;simp only [ke,hg];split at hf
    ·split at hf
     case h_2=>simp at hf
     split at hf
     case isFalse=>simp at hf
     rename_i hc;simp only [za1,St.mk.injEq,zb8,zaE,and_true] at hf;obtain ⟨rfl,rfl⟩:=hf;simp [*]
    ·simp only [za1,St.mk.injEq,zaE,and_true] at hf;obtain ⟨rfl,rfl⟩:=hf;first | rfl | (split;rename_i hne _ _ _ _;exact (hne _ _ _ _ rfl).elim;rfl)
   obtain ⟨e,e1,e2,e3,_⟩:=tu hG h hf';exact ⟨e,e1,e2,e3⟩
  ·have e:∀ u:AV,cY t (some d) u=t:=fun u=>by simp only [cY];exact List.set_eq_of_length_le hd
   exact out (e v) (e r)
theorem FV {G:Nat->List AV} {cI:CI} {pl:Nat} {x:RO} {t:List AV} {H:List Obj} {r} (h:∀ f args,x≠ .sj f args) (h':∀ sz b y z,x≠ .md sz b y z) (h'':∀ sz z len parts,x≠ .mY sz z len parts) (he:fJ G cI pl x t H=some r):evalOp G fc cI kQ pl x t H=some r:=by
 cases x<;>first | exact he | exact (h _ _ rfl).elim | exact (h' _ _ _ _ rfl).elim | exact (h'' _ _ _ _ rfl).elim | (simp only [fJ] at he;split at he;exact he;simp at he)
theorem DK {js:List Nat} (ops:Array Oper) (o:Oper) (r:bH):(qG P js ops o r).dst=r.dst/\(qG P js ops o r).guard=r.guard:=by
 unfold qG;split
 ·split
  ·exact ⟨rfl,rfl⟩
  ·split<;>exact ⟨rfl,rfl⟩
  ·exact ⟨rfl,rfl⟩
 ·split<;>exact ⟨rfl,rfl⟩
 ·split<;>exact ⟨rfl,rfl⟩
 ·exact ⟨rfl,rfl⟩
theorem QY {js:List Nat} (ops:Array Oper) (o:Oper) (r:bH):qG P js ops o r=r\/(∃ f args,r.op= .call f args/\(qG P js ops o r).op= .sj f args)\/∃ x y,r.op=x/\(qG P js ops o r).op=y/\(x.ef=true/\y.ef=true)/\∀ (G:Nat->List AV) (cI:CI) (pl:Nat) (t:List AV) (H:List Obj),∃ w,fJ G cI pl y t H=eU w (evalOp G fc cI kQ pl x t H):=by
 unfold qG;split
 ·rename_i f args hr;split
  ·exact .inr (.inl ⟨f,args,hr,rfl⟩)
  ·split
   ·exact .inr (.inl ⟨f,args,hr,rfl⟩)
   ·exact .inl rfl
  ·exact .inl rfl
 ·rename_i sz b x y hr;split
  ·exact .inr (.inr ⟨_,_,hr,rfl,⟨rfl,rfl⟩,fun G cI pl t H=>⟨_,rfl⟩⟩)
  ·exact .inl rfl
 ·rename_i sz z len parts hr;split
  ·exact .inr (.inr ⟨_,_,hr,rfl,⟨rfl,rfl⟩,fun G cI pl t H=>⟨_,rfl⟩⟩)
  ·exact .inl rfl
 ·exact .inl rfl
theorem I2 {js:List Nat} {ops:Array Oper} {l:List bH} {i:Nat} (hi:i < ops.size) (hl:i < l.length):∃ h:i < (pg P js ops l).length,(pg P js ops l)[i]=qG P js ops ops[i] l[i]:=by
 refine ⟨by simp [pg];omega,by simp [pg]⟩
theorem jX (ck:iJ P E) (fX:∀ hs code,Av P E ex (comp P hs code) code) {js:List Nat} (ops:Array Oper) (rl:List (Nat×bH)) (l2:List Nat) {b0:Nat} {ρ:Option Nat} {lo:Nat->Prop} {F:Nat->Prop} {base:Nat}
 {Q:Exit->Act->World->Prop}:
 ∀ (l:List Nat) {c:Ctx} {t t':List AV} {H H':List Obj} {fs:List FP} {a:Act},(∀ i∈l,∃ h:i < ops.size,∃ k,rl.getD i (0,default)=(k,qG P js ops ops[i] (aE P ops ops[i])))->FR lo (fo P F) E.aJ c ⟨t,H⟩ a->base<=c.H.length->
  gD E.aJ (mU E.fns ex) b0 (l.map fun i=>rl.getD i (0,default)) t H=some (t',H',fs)->
  (∀ d a',FR lo (fo P F) E.aJ d ⟨t',H'⟩ a'->cW base c d->wpOpsIn (wd ρ) 0 P ops Q l2 a' d.w)->wpOpsIn (wd ρ) 0 P ops Q (l++l2) a c.w
 | [],c,t,t',H,H',fs,a,_,h,_,hr,hQ=>by
  simp only [List.map_nil,gD,za1,za4] at hr;obtain ⟨rfl,rfl,_⟩:=hr;exact hQ c a h (cW.refl _ _)
 | i::l,c,t,t',H,H',fs,a,hl,h,hbase,hr,hQ=>by
  obtain ⟨hi,k,aP⟩:=hl i (by simp);have hoi:ops[i]?=some ops[i]:=zaj hi;simp only [za5,aP] at hr;simp only [zaH,wpOpsIn,hoi];generalize ops[i]=o at hr ⊢;have ET:(qG P js ops o (aE P ops o)).dst=o.dst:=(DK (P:=P) ops o _).1.trans (Nx (P:=P) ops o);have hgd:(qG P js ops o (aE P ops o)).guard=(aE P ops o).guard:=(DK (P:=P) ops o _).2;have CC:∀ pl x,evalOp E.aJ fc (mU E.fns ex) kQ pl .bad t H=some x->False:=by
   intro pl x hx;simp [evalOp,RO.kind,evalW] at hx
  rw [gD] at hr;split at hr
  case h_2=>simp at hr
  rename_i v H1 f hact;split at hr
  case h_2=>simp at hr
  rename_i t1 H2 fs1 SB;simp only [za1,za4] at hr;obtain ⟨rfl,rfl,_⟩:=hr;rw [ET] at SB;unfold qF at hact;rw [hgd] at hact;split at hact
  ·rename_i hw;split at hact
   case isFalse=>simp at hact
   rename_i dm;split at hact
   case h_2=>simp at hact
   rename_i u H3 eA;simp only [za1,za4] at hact;obtain ⟨rfl,rfl,_⟩:=hact;rcases QY (P:=P) ops o (aE P ops o) with hmk | ⟨f,args,hca,hmk⟩ | ⟨x,y,hca,hmk,⟨hal,ad2⟩,hfz⟩
   ·rw [hmk] at eA dm;have Ce:evalOp E.aJ fc (mU E.fns ex) kQ (b0+k) (aE P ops o).op t H=some (u,H3):=by
     have:∀ f args,(aE P ops o).op≠ .sj f args:=by
      intro f args e;rcases oy (P:=P) ops o with hop | hop
      ·rw [hop] at e;exact I6 o f args e
      ·rw [hop] at e;simp at e
     have ZG:∀ sz b y z,(aE P ops o).op≠ .md sz b y z:=by
      intro sz b y z e;rcases oy (P:=P) ops o with hop | hop
      ·rw [hop] at e;exact Eb o sz b y z e
      ·rw [hop] at e;simp at e
     have Vr:∀ sz z len parts,(aE P ops o).op≠ .mY sz z len parts:=by
      intro sz b y z e;rcases oy (P:=P) ops o with hop | hop
      ·rw [hop] at e;exact Ec o sz b y z e
      ·rw [hop] at e;simp at e
     exact FV this ZG Vr eA
    rcases oy (P:=P) ops o with hop | hop
    ·rw [hop] at Ce dm;rcases sU (P:=P) h.tr o hw with nG | ⟨hb,_⟩
     ·rw [if_pos nG];refine xJ ck fX (.inr rfl) h o (fun ha=> .inl (mC dm ha)) Ce fun d a' hd aU=>?_
      refine jX ck fX ops rl l2 l (fun j hj=>hl j (by simp [hj])) hd (zaK hbase (aU.len (za6 _))) SB fun d' ED hd' jI=>hQ d' ED hd' ?_
      exact cW.trans ⟨aU.size,aU.keep,fun x v hx=>aU.vals x v (fu hbase x hx),aU.owned,fun hn=>zaK hn (aU.len (za6 _)),aU.same,aU.jK⟩ jI
     ·rw [<-hop,hb] at Ce;exact (CC _ _ Ce).elim
    ·rw [hop] at Ce;exact (CC _ _ Ce).elim
   ·rw [hmk] at eA dm;have hop:cq P o= .call f args:=by
     rcases oy (P:=P) ops o with hop | hop
     ·rw [<-hop];exact hca
     ·rw [hop] at hca;simp at hca
    rcases sU (P:=P) h.tr o hw with nG | ⟨hb,_⟩
    ·rw [if_pos nG];refine FU ck fX h o hop (.inl (mC dm rfl)) eA fun d a' hd aU=>?_
     refine jX ck fX ops rl l2 l (fun j hj=>hl j (by simp [hj])) hd (zaK hbase (aU.len (za6 _))) SB fun d' ED hd' jI=>hQ d' ED hd' ?_
     exact cW.trans ⟨aU.size,aU.keep,fun x v hx=>aU.vals x v (fu hbase x hx),aU.owned,fun hn=>zaK hn (aU.len (za6 _)),aU.same,aU.jK⟩ jI
    ·rw [hb] at hca;simp at hca
   ·rw [hmk] at eA dm;have hop:cq P o=x:=by
     rcases oy (P:=P) ops o with hop | hop
     ·rw [<-hop];exact hca
     ·rw [hop] at hca;subst hca;simp [RO.ef] at hal
    obtain ⟨w,hfw⟩:=hfz E.aJ (mU E.fns ex) (b0+k) t H;rw [hfw] at eA
    cases oY:evalOp E.aJ fc (mU E.fns ex) kQ (b0+k) x t H with
    | none=>rw [oY] at eA;simp [eU] at eA
    | some q=>
    obtain ⟨v1,Ha⟩:=q;rw [oY] at eA;unfold eU at eA;dsimp only at eA;split at eA
    case isFalse=>simp at eA
    split at eA
    case h_2=>simp at eA
    rename_i r Hb hf;simp only [za1,za4] at eA;obtain ⟨rfl,rfl⟩:=eA;have Ce:evalOp E.aJ fc (mU E.fns ex) kQ (b0+k) (cq P o) t H=some (v1,Ha):=by rw [hop];exact oY
    rcases sU (P:=P) h.tr o hw with nG | ⟨hb,_⟩
    ·rw [if_pos nG];refine xJ ck fX (.inr rfl) h o (fun ha=> .inl (mC dm ad2)) Ce fun d a' hd aU=>?_
     obtain ⟨d2,g1,g2,g3⟩:=QX ck.aJ hd hf;rw [<-g1];refine jX ck fX ops rl l2 l (fun j hj=>hl j (by simp [hj])) g2 ((g3 base).len (zaK hbase (aU.len (za6 _)))) SB fun d' ED hd' jI=>hQ d' ED hd' ?_
     exact cW.trans ⟨aU.size,aU.keep,fun x v hx=>aU.vals x v (fu hbase x hx),aU.owned,fun hn=>zaK hn (aU.len (za6 _)),aU.same,aU.jK⟩ ((g3 base).trans jI)
    ·rw [hb] at hca;rw [<-hca] at hal;simp [RO.ef] at hal
  ·rename_i hw;simp only [za1,za4] at hact;obtain ⟨rfl,rfl,_⟩:=hact;have nG:Region.wanted o (yielded ops a.tmps)=false:=by
    rcases sU (P:=P) h.tr o hw with e | ⟨_,e⟩
    ·exact e
    ·rw [e] at hw;simp [want] at hw
   rw [if_neg (by simp [nG])];refine ⟨fun _ _=>trivial,?_⟩;exact jX ck fX ops rl l2 l (fun j hj=>hl j (by simp [hj])) ⟨h.sr,h.tr.put o.dst (BC c),h.hH,by rw [eM];exact h.df,h.gl⟩ hbase SB hQ
  ·simp at hact
end
end Go.Am
end
section
namespace Go.Am
open Go.MapKept
section
variable {P:Program} {E:Env} {ex:EX}
theorem Fx {F:Fo} {c:Ctx} (h:SR F c) (o:Go.Obj) (hn:∀ cells elem q,o≠Go.Obj.cells cells elem q):ek F c { c with w:=c.w.alloc o }:=by
 have hk:∀ b:Nat,b < c.w.heap.size->(c.w.alloc o).heap[b]?=c.w.heap[b]?:=(heap_alloc c.w o).2;have hlt:∀ b,(c.w.heap[b]?).isSome->b < c.w.heap.size:=by
  intro b hs;rcases zaf b c.w.heap.size with e | e
  ·exact e
  ·rw [zak e] at hs;simp at hs
 have hV:∀ x v,V c x v->V { c with w:=c.w.alloc o } x v:=fun x v hx=>
  V.mono (c:=c) (d:={ c with w:=c.w.alloc o }) (fun b hb hs=>⟨hk b (hlt b hs),hb⟩) (fun _ _ _ _ _ h=>h) (fun _ _ _ _ _ h=>h) (fun _ _ _ _ _ _ h=>h) (fun _ _ h=>h) hx
 have hsz:c.w.heap.size<=(c.w.alloc o).heap.size:=by rw [World.size_alloc];omega
 refine ⟨⟨⟨?_,h.hr.inj⟩,h.hO,fun b hf=>zb3 (h.hF b hf) hsz,h.eX,h.x.keep (fun id o' h1 h2=>⟨h1,rfl,hk _ (h.o4 h1 h2).1⟩) hV⟩,hV,
  fun n=>⟨hsz,fun b hb _ _=>hk b hb,fun x v _ hx=>hV x v hx,fun b ho=> .inl ho,fun hn=>hn,xR _ _ hn,fun b hb=> .inl hb⟩⟩
 intro id nl sz es h1 h2;obtain ⟨cells,elem,g1,g2,g3,g4,g5⟩:=h.hr.back id nl sz es h1 h2;refine ⟨cells,elem,(hk _ (hlt _ (by rw [g1];rfl))).trans g1,g2,g3,g4,fun i hi=>⟨(g5 i hi).1,fun j hj=>?_⟩⟩;obtain ⟨u,hu,hv⟩:=(g5 i hi).2 j hj;exact ⟨u,hu,hV _ _ hv⟩
theorem Fy {F:Fo} {c:Ctx} (h:SR F c) {id:Nat} {o:Obj} (hid:c.H[id]?=some o) (ho:o.sp=true) (wo:Go.Obj) (hn:∀ cells elem q,wo≠Go.Obj.cells cells elem q):
 ∃ d:Ctx,d.w=c.w.putObj (c.ι id) wo/\d.H=c.H.set id .dead/\ek F c d:=by
 obtain ⟨w0,g1,g2⟩:=h.x.xr id o hid ho;have cv:=bL hid;let H':=c.H.set id .dead;have aP:∀ (j:Nat) (o':Obj),o'≠ .dead->H'[j]?=some o'->j≠id/\c.H[j]?=some o':=by
  intro j o' hd hs;by_cases hj:j=id
  ·subst hj;simp [H',cv] at hs;exact (hd hs.symm).elim
  ·refine ⟨hj,?_⟩;rw [<-hs];simp only [H'];rw [za7 (fun q=>hj q.symm)]
 have hown:∀ b,bF H' c.ι b->bF c.H c.ι b:=by
  rintro b ⟨j,nl,sz,es,q1,q2,q3⟩;exact ⟨j,nl,sz,es,(aP _ _ (by simp) q1).2,q2,q3⟩
 have hB:¬ bF c.H c.ι (c.ι id):=(h.o4 hid ho).2;let d:Ctx:=⟨c.w.putObj (c.ι id) wo,fun b=>F b\/bF H' c.ι b,c.ι,c.K,H'⟩;have hk:∀ b,b≠c.ι id->d.w.heap[b]?=c.w.heap[b]?:=fun b hb=>World.putObj_heap_other hb
 have ct:∀ i,Has c i->Has d i:=by
  rintro i ⟨h1,h2⟩;refine ⟨by simpa [d,H'] using h1,fun e=>?_⟩;exact h2 (aP _ _ (by simp) e).2
 have hsp:∀ j o',d.H[j]?=some o'->o'.sp=true->c.H[j]?=some o'/\d.ι j=c.ι j/\d.w.heap[c.ι j]?=c.w.heap[c.ι j]?:=by
  intro j o' h1 h2;obtain ⟨h3,h4⟩:=aP j o' (by rintro rfl;simp [Obj.sp] at h2) h1;exact ⟨h4,rfl,hk _ fun e=>h3 (h.x.xi j id o' o h4 h2 hid ho e)⟩
 have hV:∀ x v,V c x v->V d x v:=by
  intro x v hx;refine V.Gi ?_ ?_ ?_ ?_ (fun i b hs=>hs.keep ct hsp) hx
  ·intro b p u hb hc;have hne:b≠c.ι id:=by
    rintro rfl;unfold World.cell? at hc;rw [g1] at hc
    cases w0 with
    | cells c1 e1 q1=>exact g2.qS _ _ _ rfl
    | _=>simp at hc
   refine ⟨by rw [<-hc];simp only [World.cell?,hk b hne],?_⟩;rintro (hf | ho')
   ·exact hb ((h.hO b).2 (.inl hf))
   ·exact hb ((h.hO b).2 (.inr (hown b ho')))
  ·rintro i e p l v ⟨q1,q2,q3⟩;exact ⟨ct i q1,q2,fun nl sz es hs=>q3 nl sz es (aP _ _ (by simp) hs).2⟩
  ·rintro i e p l v ⟨q1,q,q2,q3,q4⟩;exact ⟨ct i q1,q,q2,q3,fun nl sz es hs=>q4 nl sz es (aP _ _ (by simp) hs).2⟩
  ·rintro i e p l k v ⟨q1,q,q2,q3,q4⟩;exact ⟨ct i q1,q,q2,q3,fun nl sz es hs=>q4 nl sz es (aP _ _ (by simp) hs).2⟩
 have hsz:d.w.heap.size=c.w.heap.size:=World.putObj_size;refine ⟨d,rfl,rfl,⟨⟨?_,?_⟩,fun b=>Iff.rfl,fun b hf=>by rw [hsz];exact h.hF b hf,fun b hb=>h.eX b (hown b hb),h.x.keep hsp hV⟩,hV,
  fun n=>⟨by rw [hsz];exact za6 _,fun b _ _ hs=>hk b fun e=>hs ⟨id,o,hid,ho,e.symm⟩,fun x v _ hx=>hV x v hx,fun b hb=> .inl (hown b hb),fun hn=>by simpa [d,H'] using hn,CL g1 rfl g2.qS hn,fun b hb=> .inl (cV hsp hb)⟩⟩
 ·intro i nl sz es hs hbk;have hs':=(aP _ _ (by simp) hs).2;obtain ⟨cells,elem,q1,q2,q3,q4,q5⟩:=h.hr.back i nl sz es hs' hbk;have hne:c.ι i≠c.ι id:=fun e=>hB (by rw [<-e];exact ⟨i,nl,sz,es,hs',hbk,rfl⟩)
  refine ⟨cells,elem,(hk _ hne).trans q1,q2,q3,.inr ⟨i,nl,sz,es,hs,hbk,rfl⟩,fun q hq=>⟨(q5 q hq).1,fun j hj=>?_⟩⟩;obtain ⟨u,hu,hv⟩:=(q5 q hq).2 j hj;exact ⟨u,hu,hV _ _ hv⟩
 ·intro i i' _ _ _ _ _ _ h1 h2 h3 h4 he hlt;exact h.hr.inj i i' _ _ _ _ _ _ (aP _ _ (by simp) h1).2 h2 (aP _ _ (by simp) h3).2 h4 he hlt
theorem IA (ck:iJ P E) (fX:∀ hs code,Av P E ex (comp P hs code) code) {hs:List (Nat×Hint)} {g:Operand} {ps:Array Tmp} {b6 body:Code} (hna:ni b6=true) (hnb:ni body=true)
 {lo:Nat->Prop} {F:Nat->Prop} {c:Ctx} {base:Nat} {s:St} {a:Act} (hfr:FR lo (fo P F) E.aJ c s a) (hb:base<=c.H.length) {f:Nat} {cap:List AV}
 (hg:(cx g).ev E.aJ s.tmps= .fn f cap) {u:AV} {H':List Obj} (hr:Aw E.fns ex (some f) (.fI s.H.length::cap) (s.H++[.lp .ready s.tmps ps.toList (comp P hs b6) (comp P hs body)])=some (u,H'))
 {e:Ex} (he:ld H' s.H.length=some e) {Q:Exit->Act->World->Prop}
 (hQ:∀ d a',FR lo (fo P F) E.aJ d ⟨s.tmps,H'.set s.H.length .dead⟩ a'->cW base c d->Q (sI e) a' d.w):(Code.rangeFunc g ps b6 body).wpIn (wd none) 0 P Q a c.w:=by
 have hH:=hfr.hH;have hent:∀ args w,(callFunc f args).run P w= .ok (.enter f args) w:=by
  have:∃ rf,E.fns f=some rf:=by
   unfold Aw at hr;dsimp only at hr;split at hr
   ·rename_i rf si;exact ⟨rf,si⟩
   ·simp at hr
  obtain ⟨rf,si⟩:=this;obtain ⟨fn,hs,hf,hc⟩:=ck.fns f rf si;obtain ⟨code,hb,hn,_⟩:=jV hc;exact fun args w=>sZ hf hn hb args w
 have hgv:=vJ hfr.tr hfr.gl g;rw [hg] at hgv;generalize Yj:a.eval g=gv at hgv
 cases hgv with
 | fn _ _ vs hvs hcv=>
 refine wpIn_rangeFunc ?_;intro fn hfn;have w1:=Fx hfr.sr (.deferred (some [])) (by simp);have hD0:(c.w.alloc (.deferred (some []))).heap[c.w.heap.size]?=some (.deferred (some [])):=(heap_alloc c.w _).1;have aaa:(c.w.alloc (.deferred (some []))).heap.size=c.w.heap.size+1:=World.size_alloc ..;obtain ⟨d1,m1,m2,m3,m4,m5⟩:=J9 w1.1 (pl:=c.H.length) (.inr rfl) (.lp .ready s.tmps ps.toList (comp P hs b6) (comp P hs body)) rfl
  (.loop { state:= .ready,pending:=none,fn,tmps:=a.tmps,params:=ps,assign:=b6,body,defers:=c.w.heap.size }) (by simp)
  (fun d hv=>⟨_,rfl,(hfr.tr.hJ w1.2.1).hJ hv,rfl,⟨hs,rfl,hna⟩,⟨hs,rfl,hnb⟩,rfl,rfl⟩)
 have SO:ek (fo P F) c d1:=w1.trans m3;have F4:d1.H=s.H++[.lp .ready s.tmps ps.toList (comp P hs b6) (comp P hs body)]:=by
  rw [m2];unfold putObj;rw [if_neg (zc _)];rw [show ({ c with w:=c.w.alloc (.deferred (some [])) }:Ctx).H=s.H from hH]
 have Gj:d1.H.length=s.H.length+1:=by rw [F4];simp
 have dm:c.H.length=s.H.length:=by rw [hH]
 rw [dm] at m4 m5;have EF:({ c with w:=c.w.alloc (.deferred (some [])) }:Ctx).w.heap.size=c.w.heap.size+1:=aaa;rw [EF] at m4 m5;rw [<-F4] at hr;have hD1:d1.w.heap[c.w.heap.size]?=some (.deferred (some [])):=by
  rw [m1];exact ((heap_alloc _ _).2 _ (by rw [EF];omega)).trans hD0
 have Yk:d1.w.heap.size=c.w.heap.size+2:=by rw [m1,World.size_alloc,EF]
 refine ⟨c.w.heap.size+1,[{ target:= .collected c.w.heap.size,args:=#[] }],d1.w,{ target:= .fn (.func f) vs,args:=#[.func (.yield (c.w.heap.size+1)) #[] #[]] },d1.w,f,
  #[.func (.yield (c.w.heap.size+1)) #[] #[]]++vs,d1.w,?_,?_,fun _ _=>trivial,?_,fun h=>by simp [wd,Fence.wide] at h,?_⟩
 ·rw [m1];exact run_enterLoop_outer _ _ _ _ _
 ·simp only [resolve,Yj];simp [go_sem]
 ·simp [invoke,go_sem,hent]
 have zh:=wP ck fX (c:=d1) (vs:=(.func (.yield (c.w.heap.size+1)) #[] #[])::vs.toList) hr m3.1 (hfr.gl.oO ck.aJ (SO.2.2 0)) (by simp [hvs]) (fun i hi hj=>by
  cases i with
  | zero=>exact .fI _ _ m4
  | succ i=>exact SO.2.1 _ _ (hcv i (by simpa using hi) (by simpa using hj)))
 have mW:((Value.func (.yield (c.w.heap.size+1)) #[] #[])::vs.toList).toArray=#[.func (.yield (c.w.heap.size+1)) #[] #[]]++vs:=by apply zbc;simp
 rw [mW] at zh;refine (wQ (ρ:=none) (n:=0) zh).mono ?_;rintro ev w2 ⟨v,d,rfl,rfl,h1,h2,h3,_⟩;obtain ⟨t',ps',Xi,body',st,hid,hst⟩:∃ t' ps' Xi body' st,d.H[s.H.length]?=some (.lp st t' ps' Xi body')/\(st= .ready/\e= .normal\/st= .done e):=by
  rw [h1];unfold ld at he;split at he
  ·rename_i hq;injection he with he;exact ⟨_,_,_,_,_,hq,.inl ⟨rfl,he.symm⟩⟩
  ·rename_i hq;injection he with he;subst he;exact ⟨_,_,_,_,_,hq,.inr rfl⟩
  ·simp at he
 have hbd:c.w.heap.size+1=d.ι s.H.length:=h3.wR (by rw [Gj];omega) m4 hid rfl;obtain ⟨wo,g1,r,rfl,_,_,_,_,g6⟩:=h2.x.xr _ _ hid rfl;rw [<-hbd] at g1;have hnb:r.state≠ .busy:=by
  rcases hst with ⟨rfl,_⟩ | rfl
  ·intro q;have:=g6.1;rw [this] at q;cases q
  ·intro q;have:=g6.1;rw [this] at q;cases q
 obtain ⟨d2,n1,n2,n3⟩:=Fy h2 hid rfl (.loop { r with state:= .exhausted }) (by simp);rw [<-hbd] at n1;have VS:cW c.H.length c d1:=SO.2.2 _;have hf2:cW c.H.length d1 d2:=cW.trans ⟨h3.size,h3.keep,fun x v hx=>h3.vals x v (fu (by rw [Gj,dm];omega) x hx),h3.owned,fun _=>by have:=h3.len (za6 _);omega,h3.same,h3.jK⟩ (n3.2.2 _);have aU:cW c.H.length c d2:=VS.trans hf2;have Ka:cW base c d2:=⟨aU.size,aU.keep,fun x v hx=>aU.vals x v (fu hb x hx),aU.owned,fun _=>zaK hb (aU.len (za6 _)),aU.same,aU.jK⟩;have hDd:d2.w.heap[c.w.heap.size]?=some (.deferred (some [])):=by
  rw [hf2.keep _ (by rw [Yk];omega) ?_ ?_,hD1]
  ·rintro ⟨id,nl,sz,es,q1,q2,q3⟩;obtain ⟨cells,elem,q4,_⟩:=m3.1.hr.back id nl sz es q1 q2;rw [q3,hD1] at q4;simp at q4
  ·rintro ⟨id,o,q1,q2,q3⟩;obtain ⟨wo,q4,q5⟩:=m3.1.x.xr id o q1 q2;rw [q3,hD1] at q4;injection q4 with q4
   exact q5.Gk _ q4.symm
 have EH:FR lo (fo P F) E.aJ d2 ⟨s.tmps,H'.set s.H.length .dead⟩ { a with defers:=[{ target:= .collected c.w.heap.size,args:=#[] }]++a.defers }:=by
  refine ⟨n3.1,⟨hfr.tr.1,fun i hi hj=>aU.vals _ _ ((hfr.tr.2 i hi hj).bp) (hfr.tr.2 i hi hj)⟩,by rw [n2,h1],?_,hfr.gl.oO ck.aJ aU⟩;obtain ⟨hlo,Ds,k1,k2,k3⟩:=hfr.df;obtain ⟨aab,Ds5,_,_,_⟩:=hfr.df.oO hfr.sr aU;refine ⟨aab,c.w.heap.size::Ds,?_,?_,?_⟩
  ·rw [zc2];refine ⟨fun h=>?_,k1⟩;have:=(k3 _ h).2;rw [zak (za6 _)] at this;simp at this
  ·rw [za5,<-k2];rfl
  ·intro D' So;rcases zam.1 So with rfl | So
   ·exact ⟨hlo _ (za6 _),hDd⟩
   ·have h3:=(k3 D' So).2;have hlt:D' < c.w.heap.size:=(zbz.1 h3).1;refine ⟨(k3 D' So).1,(aU.keep D' hlt ?_ ?_).trans h3⟩
    ·rintro ⟨id,nl,sz,es,q1,q2,q3⟩;obtain ⟨cells,elem,q4,_⟩:=hfr.sr.hr.back id nl sz es q1 q2;rw [q3,h3] at q4;simp at q4
    ·rintro ⟨id,o,q1,q2,q3⟩;obtain ⟨wo,q4,q5⟩:=hfr.sr.x.xr id o q1 q2;rw [q3,h3] at q4;injection q4 with q4
     exact q5.Gk _ q4.symm
 refine ⟨r.pending,_,run_endLoop (P:=P) g1 hnb,?_⟩;rw [<-n1];rcases hst with ⟨rfl,rfl⟩ | rfl
 ·rw [g6.2];exact hQ d2 _ EH Ka
 ·rw [g6.2.1]
  cases e with
  | normal=>exact (g6.2.2 rfl).elim
  | ret=>exact wpIn_ret (hQ d2 _ EH Ka)
  | exit i=>exact wpIn_exit (hQ d2 _ EH Ka)
end
end Go.Am
end
