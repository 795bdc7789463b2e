/- THE ABSTRACT MACHINE IS SOUND: what it computes, the program's code does, in whatever memory and order. Condition: the environment is the program's. -/
import Derived.Test.YtafgdbaekppjcaaGreatDoorAmW
set_option linter.unusedSectionVars false
set_option linter.unusedVariables false
set_option linter.unusedSimpArgs false
namespace Go.Am
section
variable {P:Program} {E:Env}
theorem TR.put {c:Ctx} {t:List AV} {a:Act} (h:TR c t a.tmps) (d:Option Nat) {x:AV} {v:Value} (hx:V c x v):TR c (setD t d x) (a.put d v).tmps:=by
 cases d with
 | none=>exact h
 | some d=>
  refine ⟨by simp [setD,Act.put,h.1],fun i hi hj=>?_⟩
  have hi':i < t.length:=by simpa [setD] using hi
  have hj':i < a.tmps.size:=by simpa [Act.put] using hj
  by_cases hd:d=i
  ·subst hd
   have e1:(setD t (some d) x)[d]'hi=x:=by simp [setD]
   have e2:(a.put (some d) v).tmps[d]'hj=v:=by simp [Act.put]
   rw [e1,e2];exact hx
  ·have e1:(setD t (some d) x)[i]'hi=t[i]:=by simp only [setD];rw [List.getElem_set_ne hd]
   have e2:(a.put (some d) v).tmps[i]'hj=a.tmps[i]:=by simp only [Act.put];rw [Array.getElem_setIfInBounds_ne hj' hd]
   rw [e1,e2];exact h.2 i hi' hj'
theorem put_defers (a:Act) (d:Option Nat) (v:Value):(a.put d v).defers=a.defers:=by cases d<;>rfl
theorem undef_V (c:Ctx):V c (.tup []) undef:= .tup [] #[] rfl fun i hi=>by simp at hi
theorem want_V {c:Ctx} {ops:Array Oper} {t:List AV} {a:Act} (ht:TR c t a.tmps) (o:Oper) {b:Bool} (h:want t (compOper P ops o).guard=some b):
 Region.wanted o (yielded ops a.tmps)=b∨((compOper P ops o).op= .bad∧(compOper P ops o).guard=none):=by
 unfold compOper at h ⊢
 cases hg:o.guard with
 | none=>simp only [hg,want] at h;injection h with h;left;simp [Region.wanted,hg,h]
 | some g=>
  obtain ⟨j,q⟩:=g
  simp only [hg] at h ⊢
  cases hd:dstOf ops j with
  | none=>right;exact ⟨rfl,rfl⟩
  | some d=>
   left
   simp only [hd,want] at h
   have hdst:(ops[j]?).bind (·.dst)=some d:=by
    unfold dstOf at hd
    split at hd
    ·rename_i o' ho';rw [ho'];exact hd
    ·simp at hd
   split at h
   ·rename_i b' hb'
    injection h with h
    obtain ⟨hi,he⟩:=getD_some hb' (by simp)
    have hi':d < a.tmps.size:=by rw [ht.1];exact hi
    have hv:=ht.2 d hi hi'
    rw [he] at hv
    have:a.tmps[d]= .bool b':=by
     generalize a.tmps[d]=u at hv ⊢
     cases hv;rfl
    simp only [Region.wanted,hg,yielded,hdst,Option.bind_some,Array.getElem?_eq_getElem hi',this]
    rw [←h]
    cases b'<;>cases q<;>rfl
   ·rename_i hb'
    injection h with h
    obtain ⟨hi,he⟩:=getD_some hb' (by simp)
    have hi':d < a.tmps.size:=by rw [ht.1];exact hi
    have hv:=ht.2 d hi hi'
    rw [he] at hv
    have:a.tmps[d]= .tuple #[]:=by
     generalize a.tmps[d]=u at hv ⊢
     cases hv with
     | tup _ vs hs _=>
      have:vs=#[]:=by simpa using hs
      rw [this]
    simp only [Region.wanted,hg,yielded,hdst,Option.bind_some,Array.getElem?_eq_getElem hi',this]
    rw [←h];rfl
   ·simp at h
theorem kind_call (o:Oper):(∀ f args,compOp P o= .call f args→∃ c,o.op= .call c∧c.callee= .value (.func f)∧args=c.args.toList.map cx)∧
 (∀ x args,compOp P o= .callv x args→∃ c y,o.op= .call c∧c.callee= .value y∧x=cx y∧args=c.args.toList.map cx):=by
 unfold compOp
 cases hop:o.op with
 | call cl=>
  simp only
  constructor
  ·intro f args h
   split at h
   ·rename_i f' hc
    injection h with h1 h2
    exact ⟨cl,rfl,by rw [hc,h1],h2.symm⟩
   ·simp at h
   ·(repeat' split at h)<;>simp at h
   ·(repeat' split at h)<;>simp at h
   ·simp at h
   ·simp at h
   ·(repeat' split at h)<;>simp at h
   ·simp at h
  ·intro x args h
   split at h
   ·simp at h
   ·rename_i y _ hc
    injection h with h1 h2
    exact ⟨cl,y,rfl,hc,h1.symm,h2.symm⟩
   ·(repeat' split at h)<;>simp at h
   ·(repeat' split at h)<;>simp at h
   ·simp at h
   ·simp at h
   ·(repeat' split at h)<;>simp at h
   ·simp at h
 | binOp op ty x y yt=>
  simp only
  constructor
  ·intro f args h
   split at h
   ·unfold compEq at h;(repeat' split at h)<;>simp at h
   ·unfold compEq at h;(repeat' split at h)<;>simp at h
   ·simp at h
  ·intro f args h
   split at h
   ·unfold compEq at h;(repeat' split at h)<;>simp at h
   ·unfold compEq at h;(repeat' split at h)<;>simp at h
   ·simp at h
 | makeFunc fn first cap=>cases fn<;>simp only<;>constructor<;>intro f args h<;>(repeat' split at h)<;>simp at h
 | slice ty x lo hi mx=>cases mx<;>simp only<;>constructor<;>intro f args h<;>(repeat' split at h)<;>simp at h
 | makeMap ty r=>cases r<;>simp only<;>constructor<;>intro f args h<;>simp at h
 | next x b=>cases b<;>simp only<;>constructor<;>intro f args h<;>simp at h
 | _=>simp only;constructor<;>intro f args h<;>(repeat' split at h)<;>simp at h
theorem run_enter {f:Nat} {fn:Func} (hf:P.funcs[f]?=some fn) (hn:(fn.name== "runtime.NumGoroutine")=false) {code:Code} (hb:fn.body=some code) (args:Array Value) (w:World):
 (callFunc f args).run P w= .ok (.enter f args) w:=by
 have hn':¬ fn.name= "runtime.NumGoroutine" :=by simpa using hn
 unfold callFunc
 simp [hf,hn',hb]
variable {ex:EX}
theorem evalW_pl {G:Nat→List AV} {t:List AV} {H:List Obj} {x:RO} (h:x.isAlloc=false) (p q:Nat):evalW G t H p x=evalW G t H q x:=by
 cases x<;>first | rfl | (simp [RO.isAlloc] at h)
theorem op_sound (henv:EnvOk P E) (hsnd:∀ hs code,Snd P E ex (comp P hs code) code) {hp:Nat→Bool} {cH:CH} (hcH:cH=cHF E.fns ex∨cH=noH) {ρ:Option Nat} {lo:Nat→Prop} {F:Nat→Prop} {c:Ctx} {t:List AV} {H:List Obj} {a:Act}
 (h:FR lo (fo P F) E.glob c ⟨t,H⟩ a) (o:Oper) {v:AV} {H':List Obj} {pl:Nat} (hpl:(compOp P o).isAlloc=true→Room H pl) (hev:evalOp E.glob hp (cIF E.fns ex) cH pl (compOp P o) t H=some (v,H'))
 {next:Act→World→Prop} {Q:Exit→Act→World→Prop} (hnext:∀ d u,FR lo (fo P F) E.glob d ⟨setD t o.dst v,H'⟩ (a.put o.dst u)→Fut c.H.length c d→next (a.put o.dst u) d.w):
 o.wpIn (wd ρ) 0 P a c.w next Q:=by
 have hnd:∀ q,o.op≠ .defer q:=by
  intro q hq
  have:compOp P o= .bad:=by unfold compOp;rw [hq]
  rw [this] at hev
  simp [evalOp,RO.kind,evalW] at hev
 refine ⟨fun _ _=>trivial,?_⟩
 rw [Oper.semAt_eq _ _ _ hnd]
 have hH:c.H=H:=h.hH
 unfold evalOp at hev
 cases hk:(compOp P o).kind with
 | pure=>
  rw [hk] at hev;simp only at hev
  split at hev
  case h_2=>simp at hev
  rename_i u hu
  simp only [Option.some.injEq,Prod.mk.injEq] at hev
  obtain ⟨rfl,rfl⟩:=hev
  obtain ⟨v',e1,e2⟩:=pr_sound (P:=P) h.sr.hr h.tr h.gl o (.inl hu)
  rw [e1]
  exact hnext c _ ⟨h.sr,h.tr.put o.dst e2,hH,by rw [put_defers];exact h.df,h.gl⟩ (Fut.refl _ _)
 | read=>
  rw [hk] at hev;simp only at hev
  split at hev
  case h_2=>simp at hev
  rename_i u hu
  simp only [Option.some.injEq,Prod.mk.injEq] at hev
  obtain ⟨rfl,rfl⟩:=hev
  rw [←hH] at hu
  obtain ⟨v',e1,e2⟩:=pr_sound (P:=P) h.sr.hr h.tr h.gl o (.inr hu)
  rw [e1]
  exact hnext c _ ⟨h.sr,h.tr.put o.dst e2,hH,by rw [put_defers];exact h.df,h.gl⟩ (Fut.refl _ _)
 | write=>
  rw [hk] at hev;simp only at hev
  have hevr:∃ q,Room H q∧evalW E.glob t H q (compOp P o)=some (v,H'):=by
   cases ha:(compOp P o).isAlloc with
   | true=>exact ⟨pl,hpl ha,hev⟩
   | false=>exact ⟨H.length,.inr rfl,by rw [evalW_pl ha H.length pl];exact hev⟩
  obtain ⟨q,hq,hev⟩:=hevr
  rw [←hH] at hev hq
  obtain ⟨d,d1,d2,d3⟩:=wr_sound (P:=P) h.sr h.tr h.gl o hq hev
  have hgl:Glob d E.glob:=h.gl.fut henv.glob (d2.2.2 0)
  rcases d3 with ⟨v',e1,e2⟩ | ⟨e1,rfl⟩
  ·rw [e1]
   exact hnext d _ ⟨d2.1,(h.tr.went d2.2.1).put o.dst e2,d1,by rw [put_defers];exact h.df.fut h.sr (d2.2.2 0),hgl⟩ (d2.2.2 _)
  ·rw [e1]
   exact hnext d _ ⟨d2.1,(h.tr.went d2.2.1).put o.dst (undef_V d),d1,by rw [put_defers];exact h.df.fut h.sr (d2.2.2 0),hgl⟩ (d2.2.2 _)
 | call=>
  rw [hk] at hev;simp only at hev
  have fin:∀ (f:Nat) (xs:List AV) (vs:List Value) (args:Array Value),args=vs.toArray→doCall hp (cIF E.fns ex) cH f xs H=some (v,H')→vs.length=xs.length→
   (∀ i (hi:i < xs.length) (hj:i < vs.length),V c xs[i] vs[i])→(execOp a.eval o).run P c.w=(callFunc f args).run P c.w→o.uponIn (wd ρ) 0 P a next Q ((execOp a.eval o).run P c.w):=by
   intro f xs vs args hargs hd hl hv hrun
   subst hargs
   rw [←hH] at hd
   have hcall:=call_sound henv hsnd hcH hd h.sr h.gl hl hv
   have hent:∃ fn code,P.funcs[f]?=some fn∧(fn.name== "runtime.NumGoroutine")=false∧fn.body=some code:=by
    have:∃ rf,E.fns f=some rf:=by
     unfold doCall at hd
     have hh:∀ r,cH (some f) xs c.H=some r→∃ rf,E.fns f=some rf:=by
      intro r hr
      rcases hcH with rfl | rfl
      ·unfold cHF at hr
       dsimp only at hr
       split at hr
       ·rename_i rf hrf;exact ⟨rf,hrf⟩
       ·simp at hr
      ·simp [noH] at hr
     split at hd
     ·exact hh _ hd
     ·split at hd
      ·split at hd
       ·rename_i r hr
        unfold cIF at hr
        split at hr
        ·rename_i rf hrf;exact ⟨rf,hrf⟩
        ·simp at hr
       ·simp at hd
      ·exact hh _ hd
    obtain ⟨rf,hrf⟩:=this
    obtain ⟨fn,hs,hf,hc⟩:=henv.fns f rf hrf
    obtain ⟨code,hb,hn,_⟩:=compF_some hc
    exact ⟨fn,code,hf,hn,hb⟩
   obtain ⟨fn,code,hf,hn,hb⟩:=hent
   rw [hrun,run_enter hf hn hb]
   refine ⟨fun h=>by simp [wd,Fence.wide] at h,wd_calls (hcall.mono ?_)⟩
   rintro e w' ⟨u,d,rfl,rfl,d1,d2,d3,d4⟩
   refine hnext d _ ⟨d2,?_,d1,by rw [put_defers];exact h.df.fut h.sr d3,h.gl.fut henv.glob d3⟩ d3
   refine TR.put ⟨h.tr.1,fun i hi hj=>d3.vals _ _ ((h.tr.2 i hi hj).bel) (h.tr.2 i hi hj)⟩ o.dst d4
  split at hev
  ·rename_i f args hc
   obtain ⟨cl,hop,hcal,rfl⟩:=(kind_call (P:=P) o).1 f args hc
   refine fin f _ (cl.args.toList.map a.eval) ((cl.args.map a.eval)++#[]) (by apply Array.ext';simp) hev (by simp) (args_V h.tr h.gl cl.args.toList) ?_
   simp only [execOp,hop,resolve,hcal,Act.eval,Deferred.ofValue]
   simp [invoke]
  ·rename_i x args hc
   obtain ⟨cl,y,hop,hcal,rfl,rfl⟩:=(kind_call (P:=P) o).2 x args hc
   split at hev
   case h_4=>simp at hev
   case h_2=>
    rename_i f cap hfx
    have hy:=ev_V h.tr h.gl y
    have hfx':(cx y).ev E.glob t= .bnd f cap:=hfx
    rw [show (⟨t,H⟩:St).tmps=t from rfl,hfx'] at hy
    generalize hyv:a.eval y=yv at hy
    cases hy with
    | bnd _ _ cs hs hv=>
     refine fin f _ (cs.toList++cl.args.toList.map a.eval) ((cs++cl.args.map a.eval)++#[]) (by apply Array.ext';simp) hev (by simp [hs]) ?_ ?_
     ·intro i hi hj
      have ha:=args_V h.tr h.gl cl.args.toList
      by_cases hlt:i < cap.length
      ·rw [List.getElem_append_left hlt,List.getElem_append_left (by simp;omega)]
       simpa using hv i hlt (by omega)
      ·have hcs:cs.toList.length=cap.length:=by simp [hs]
       rw [List.getElem_append_right (by omega),List.getElem_append_right (by omega)]
       simp only [hcs]
       exact ha _ _ _
     ·simp only [execOp,hop,resolve,hcal,hyv,Deferred.ofValue]
      simp [invoke]
   case h_3=>
    rename_i l hfx
    have hev:cH none (.yld l::(cl.args.toList.map cx).map (·.ev E.glob t)) H=some (v,H'):=hev
    rcases hcH with rfl | rfl
    case inr=>simp [noH] at hev
    have hr:rnd ex (.yld l::(cl.args.toList.map cx).map (·.ev E.glob t)) c.H=some (v,H'):=by rw [hH];exact hev
    have hy:=ev_V h.tr h.gl y
    have hfx':(cx y).ev E.glob t= .yld l:=hfx
    rw [show (⟨t,H⟩:St).tmps=t from rfl,hfx'] at hy
    generalize hyv:a.eval y=yv at hy
    cases hy with
    | yld _ b hb=>
     have hvs:=args_V h.tr h.gl cl.args.toList
     obtain ⟨fn,tmps,asg,body,hrun,hround⟩:=rnd_sound henv hsnd h.sr h.gl hb (vs:=(cl.args.toList.map a.eval).toArray) (by simp) (fun i hi hj=>hvs i hi (by simpa using hj)) hr
     have hexe:(execOp a.eval o).run P c.w= .ok (.round b fn tmps asg body) c.w:=by
      rw [←hrun]
      have:(cl.args.toList.map a.eval).toArray=cl.args.map a.eval:=by apply Array.ext';simp
      rw [this]
      simp only [execOp,hop,resolve,hcal,hyv,Deferred.ofValue]
      simp [invoke]
     rw [hexe,Oper.uponIn_round]
     have hround':RoundIn (wd ρ) 0 P b fn tmps asg body c.w _:=hround
     refine ⟨fun h=>by simp [wd,Fence.wide] at h,hround'.mono ?_⟩
     rintro e w' ⟨u,d,rfl,rfl,d1,d2,d3,d4⟩
     refine hnext d _ ⟨d2,?_,d1,by rw [put_defers];exact h.df.fut h.sr d3,h.gl.fut henv.glob d3⟩ d3
     exact TR.put ⟨h.tr.1,fun i hi hj=>d3.vals _ _ ((h.tr.2 i hi hj).bel) (h.tr.2 i hi hj)⟩ o.dst d4
   rename_i f cap hfx
   have hy:=ev_V h.tr h.gl y
   have hfx':(cx y).ev E.glob t= .fn f cap:=hfx
   rw [show (⟨t,H⟩:St).tmps=t from rfl,hfx'] at hy
   generalize hyv:a.eval y=yv at hy
   cases hy with
   | fn _ _ cs hs hv=>
    refine fin f _ (cl.args.toList.map a.eval++cs.toList) ((#[]++cl.args.map a.eval)++cs) (by apply Array.ext';simp) hev (by simp [hs]) ?_ ?_
    ·intro i hi hj
     have ha:=args_V h.tr h.gl cl.args.toList
     by_cases hlt:i < cl.args.toList.length
     ·rw [List.getElem_append_left (by simpa using hlt),List.getElem_append_left (by simpa using hlt)]
      exact ha i (by simpa using hlt) (by simpa using hlt)
     ·rw [List.getElem_append_right (by simpa using hlt),List.getElem_append_right (by simpa using hlt)]
      simp only [List.length_map,Array.getElem_toList]
      exact hv _ _ _
    ·simp only [execOp,hop,resolve,hcal,hyv,Deferred.ofValue]
     simp [invoke]
  ·simp at hev
theorem opmk_sound (henv:EnvOk P E) (hsnd:∀ hs code,Snd P E ex (comp P hs code) code) {ρ:Option Nat} {lo:Nat→Prop} {F:Nat→Prop} {c:Ctx} {t:List AV} {H:List Obj} {a:Act}
 (h:FR lo (fo P F) E.glob c ⟨t,H⟩ a) (o:Oper) {f:Nat} {args:List RX} (hco:compOp P o= .call f args) {v:AV} {H':List Obj} {pl:Nat} (hpl:Room H pl)
 (hev:mkObj (cIF E.fns ex) f (args.map (·.ev E.glob t)) pl H=some (v,H'))
 {next:Act→World→Prop} {Q:Exit→Act→World→Prop} (hnext:∀ d u,FR lo (fo P F) E.glob d ⟨setD t o.dst v,H'⟩ (a.put o.dst u)→Fut c.H.length c d→next (a.put o.dst u) d.w):
 o.wpIn (wd ρ) 0 P a c.w next Q:=by
 have hnd:∀ q,o.op≠ .defer q:=by
  intro q hq
  have:compOp P o= .bad:=by unfold compOp;rw [hq]
  rw [this] at hco
  simp at hco
 refine ⟨fun _ _=>trivial,?_⟩
 rw [Oper.semAt_eq _ _ _ hnd]
 have hH:c.H=H:=h.hH
 obtain ⟨cl,hop,hcal,rfl⟩:=(kind_call (P:=P) o).1 f args hco
 rw [←hH] at hev hpl
 have hvs:=args_V h.tr h.gl cl.args.toList
 have hcall:=mk_sound henv hsnd hev hpl h.sr h.gl (vs:=cl.args.toList.map a.eval) (by simp) hvs
 have hent:∃ fn code,P.funcs[f]?=some fn∧(fn.name== "runtime.NumGoroutine")=false∧fn.body=some code:=by
  have:∃ rf,E.fns f=some rf:=by
   unfold mkObj at hev
   split at hev
   case h_2=>simp at hev
   split at hev
   case h_2=>simp at hev
   rename_i hr
   unfold cIF at hr
   split at hr
   ·rename_i rf hrf;exact ⟨rf,hrf⟩
   ·simp at hr
  obtain ⟨rf,hrf⟩:=this
  obtain ⟨fn,hs,hf,hc⟩:=henv.fns f rf hrf
  obtain ⟨code,hb,hn,_⟩:=compF_some hc
  exact ⟨fn,code,hf,hn,hb⟩
 obtain ⟨fn,code,hf,hn,hb⟩:=hent
 have hrun:(execOp a.eval o).run P c.w=(callFunc f (cl.args.toList.map a.eval).toArray).run P c.w:=by
  have:(cl.args.toList.map a.eval).toArray=(cl.args.map a.eval)++#[]:=by apply Array.ext';simp
  rw [this]
  simp only [execOp,hop,resolve,hcal,Act.eval,Deferred.ofValue]
  simp [invoke]
 rw [hrun,run_enter hf hn hb]
 refine ⟨fun h=>by simp [wd,Fence.wide] at h,wd_calls (hcall.mono ?_)⟩
 rintro e w' ⟨u,d,rfl,rfl,d1,d2,dV,d3,d4⟩
 refine hnext d _ ⟨d2,?_,d1,by rw [put_defers];exact h.df.fut h.sr (d3 0),h.gl.fut henv.glob (d3 0)⟩ (d3 _)
 exact TR.put ⟨h.tr.1,fun i hi hj=>dV _ _ (h.tr.2 i hi hj)⟩ o.dst d4
theorem ops_sound (henv:EnvOk P E) (hsnd:∀ hs code,Snd P E ex (comp P hs code) code) {hp:Nat→Bool} {cH:CH} (hcH:cH=cHF E.fns ex∨cH=noH) (ops:Array Oper) (rl:List ROp) (l2:List Nat) {ρ:Option Nat} {lo:Nat→Prop} {F:Nat→Prop} {base:Nat} {Q:Exit→Act→World→Prop}:
 ∀ (l:List Nat) {c:Ctx} {t t':List AV} {H H':List Obj} {a:Act},(∀ i∈l,∃ h:i < ops.size,rl.getD i default=compOper P ops ops[i])→FR lo (fo P F) E.glob c ⟨t,H⟩ a→base≤c.H.length→
  runOps E.glob hp (cIF E.fns ex) cH (l.map fun i=>rl.getD i default) t H=some (t',H')→
  (∀ d a',FR lo (fo P F) E.glob d ⟨t',H'⟩ a'→Fut base c d→wpOpsIn (wd ρ) 0 P ops Q l2 a' d.w)→wpOpsIn (wd ρ) 0 P ops Q (l++l2) a c.w
 | [],c,t,t',H,H',a,_,h,_,hr,hQ=>by
  simp only [List.map_nil,runOps,Option.some.injEq,Prod.mk.injEq] at hr
  obtain ⟨rfl,rfl⟩:=hr
  exact hQ c a h (Fut.refl _ _)
 | i::l,c,t,t',H,H',a,hl,h,hbase,hr,hQ=>by
  obtain ⟨hi,hget⟩:=hl i (by simp)
  have hoi:ops[i]?=some ops[i]:=Array.getElem?_eq_getElem hi
  simp only [List.map_cons,hget] at hr
  simp only [List.cons_append,wpOpsIn,hoi]
  generalize ops[i]=o at hr ⊢
  have hdst:(compOper P ops o).dst=o.dst:=by
   unfold compOper
   cases hg:o.guard with
   | none=>rfl
   | some g=>obtain ⟨j,q⟩:=g;simp only;cases hd:dstOf ops j<;>rfl
  have hop:(compOper P ops o).op=compOp P o∨(compOper P ops o).op= .bad:=by
   unfold compOper
   cases hg:o.guard with
   | none=>left;rfl
   | some g=>
    obtain ⟨j,q⟩:=g
    simp only
    cases hd:dstOf ops j with
    | none=>right;rfl
    | some d=>left;rfl
  have nobad:∀ x,evalOp E.glob hp (cIF E.fns ex) cH H.length .bad t H=some x→False:=by
   intro x hx;simp [evalOp,RO.kind,evalW] at hx
  rw [runOps] at hr
  split at hr
  ·rename_i hw
   split at hr
   case h_2=>simp at hr
   rename_i v H1 hev
   rcases hop with hop | hop
   ·rw [hop] at hev
    rw [hdst] at hr
    rcases want_V (P:=P) h.tr o hw with hwant | ⟨hb,_⟩
    ·rw [if_pos hwant]
     refine op_sound henv hsnd hcH h o (fun _=> .inr rfl) hev fun d a' hd hfut=>?_
     refine ops_sound henv hsnd hcH ops rl l2 l (fun j hj=>hl j (by simp [hj])) hd (Nat.le_trans hbase (hfut.len (Nat.le_refl _))) hr fun d' a'' hd' hfut'=>hQ d' a'' hd' ?_
     exact Fut.trans ⟨hfut.size,hfut.keep,fun x v hx=>hfut.vals x v (bel_mono hbase x hx),hfut.owned,fun hn=>Nat.le_trans hn (hfut.len (Nat.le_refl _)),hfut.same,hfut.ownedS⟩ hfut'
    ·rw [←hop,hb] at hev;exact (nobad _ hev).elim
   ·rw [hop] at hev;exact (nobad _ hev).elim
  ·rename_i hw
   rw [hdst] at hr
   have hwant:Region.wanted o (yielded ops a.tmps)=false:=by
    rcases want_V (P:=P) h.tr o hw with e | ⟨_,e⟩
    ·exact e
    ·rw [e] at hw;simp [want] at hw
   rw [if_neg (by simp [hwant])]
   refine ⟨fun _ _=>trivial,?_⟩
   exact ops_sound henv hsnd hcH ops rl l2 l (fun j hj=>hl j (by simp [hj])) ⟨h.sr,h.tr.put o.dst (undef_V c),h.hH,by rw [put_defers];exact h.df,h.gl⟩ hbase hr hQ
  ·simp at hr
theorem dst_comp (ops:Array Oper) (o:Oper):(compOper P ops o).dst=o.dst:=by
 unfold compOper
 cases hg:o.guard with
 | none=>rfl
 | some g=>obtain ⟨j,q⟩:=g;simp only;cases hd:dstOf ops j<;>rfl
theorem op_comp (ops:Array Oper) (o:Oper):(compOper P ops o).op=compOp P o∨(compOper P ops o).op= .bad:=by
 unfold compOper
 cases hg:o.guard with
 | none=>left;rfl
 | some g=>
  obtain ⟨j,q⟩:=g
  simp only
  cases hd:dstOf ops j with
  | none=>right;rfl
  | some d=>left;rfl
theorem comp_nomk (o:Oper) (f:Nat) (args:List RX):compOp P o≠ .mkc f args:=by
 intro h
 unfold compOp at h
 cases hop:o.op with
 | binOp op ty x y yt=>
  simp only [hop] at h
  split at h
  ·unfold compEq at h;(repeat' split at h)<;>simp at h
  ·unfold compEq at h;(repeat' split at h)<;>simp at h
  ·simp at h
 | makeFunc fn first cap=>cases fn<;>simp only [hop] at h<;>(repeat' split at h)<;>simp at h
 | slice ty x lo hi mx=>cases mx<;>simp only [hop] at h<;>(repeat' split at h)<;>simp at h
 | makeMap ty r=>cases r<;>simp only [hop] at h<;>simp at h
 | next x b=>cases b<;>simp only [hop] at h<;>simp at h
 | _=>simp only [hop] at h;(repeat' split at h)<;>simp at h
theorem comp_noappf (o:Oper) (sz b:Nat) (y z:RX):compOp P o≠ .appf sz b y z:=by
 intro h
 unfold compOp at h
 cases hop:o.op with
 | binOp op ty x y yt=>
  simp only [hop] at h
  split at h
  ·unfold compEq at h;(repeat' split at h)<;>simp at h
  ·unfold compEq at h;(repeat' split at h)<;>simp at h
  ·simp at h
 | makeFunc fn first cap=>cases fn<;>simp only [hop] at h<;>(repeat' split at h)<;>simp at h
 | slice ty x lo hi mx=>cases mx<;>simp only [hop] at h<;>(repeat' split at h)<;>simp at h
 | makeMap ty r=>cases r<;>simp only [hop] at h<;>simp at h
 | next x b=>cases b<;>simp only [hop] at h<;>simp at h
 | _=>simp only [hop] at h;(repeat' split at h)<;>simp at h
theorem comp_nobslf (o:Oper) (sz:Nat) (z:List AV) (len:Nat) (parts:List (Nat×RX)):compOp P o≠ .bslf sz z len parts:=by
 intro h
 unfold compOp at h
 cases hop:o.op with
 | binOp op ty x y yt=>
  simp only [hop] at h
  split at h
  ·unfold compEq at h;(repeat' split at h)<;>simp at h
  ·unfold compEq at h;(repeat' split at h)<;>simp at h
  ·simp at h
 | makeFunc fn first cap=>cases fn<;>simp only [hop] at h<;>(repeat' split at h)<;>simp at h
 | slice ty x lo hi mx=>cases mx<;>simp only [hop] at h<;>(repeat' split at h)<;>simp at h
 | makeMap ty r=>cases r<;>simp only [hop] at h<;>simp at h
 | next x b=>cases b<;>simp only [hop] at h<;>simp at h
 | _=>simp only [hop] at h;(repeat' split at h)<;>simp at h
theorem frz_dst {lo:Nat→Prop} {F:Fo} {G:Nat→List AV} {c:Ctx} (hG:∀ g,AV.bels 0 (G g)=true) {t:List AV} {d:Option Nat} {v r:AV} {H1 H2:List Obj} {a:Act} (h:FR lo F G c ⟨setD t d v,H1⟩ a)
 (hf:frz1 0 ⟨[v],H1⟩=some ⟨[r],H2⟩):∃ e:Ctx,e.w=c.w∧FR lo F G e ⟨setD t d r,H2⟩ a∧∀ n,Fut n c e:=by
 have out:setD t d v=t→setD t d r=t→∃ e:Ctx,e.w=c.w∧FR lo F G e ⟨setD t d r,H2⟩ a∧∀ n,Fut n c e:=by
  intro e1 e2
  rw [e1] at h
  rw [e2]
  simp only [frz1,List.getD_cons_zero] at hf
  split at hf
  ·split at hf
   case h_2=>simp at hf
   rename_i sz es hl
   obtain ⟨nl,hid⟩:=getLive_some hl
   split at hf
   case isFalse=>simp at hf
   rename_i hc
   simp only [Option.some.injEq,St.mk.injEq] at hf
   obtain ⟨_,rfl⟩:=hf
   exact dead_sound hG h hid (by have:=hc.2.2;simpa [nlAt,hid] using this)
  ·simp only [Option.some.injEq,St.mk.injEq] at hf
   obtain ⟨_,rfl⟩:=hf
   exact ⟨c,rfl,h,fun n=>Fut.refl n c⟩
 cases d with
 | none=>exact out rfl rfl
 | some d=>
  rcases Nat.lt_or_ge d t.length with hd | hd
  ·have hg:(t.set d v).getD d .any=v:=by simp [List.getD,hd]
   have hf':frz1 d ⟨t.set d v,H1⟩=some ⟨t.set d r,H2⟩:=by
    simp only [frz1,List.getD_cons_zero] at hf
    simp only [frz1,hg]
    split at hf
    ·split at hf
     case h_2=>simp at hf
     split at hf
     case isFalse=>simp at hf
     rename_i hc
     simp only [Option.some.injEq,St.mk.injEq,List.set_cons_zero,List.cons.injEq,and_true] at hf
     obtain ⟨rfl,rfl⟩:=hf
     simp [*]
    ·simp only [Option.some.injEq,St.mk.injEq,List.cons.injEq,and_true] at hf
     obtain ⟨rfl,rfl⟩:=hf
     first | rfl | (split;rename_i hne _ _ _ _;exact (hne _ _ _ _ rfl).elim;rfl)
   obtain ⟨e,e1,e2,e3,_⟩:=frz_sound hG h hf'
   exact ⟨e,e1,e2,e3⟩
  ·have e:∀ u:AV,setD t (some d) u=t:=fun u=>by simp only [setD];exact List.set_eq_of_length_le hd
   exact out (e v) (e r)
theorem evalD_nomk {G:Nat→List AV} {cI:CI} {pl:Nat} {x:RO} {t:List AV} {H:List Obj} {r} (h:∀ f args,x≠ .mkc f args) (h':∀ sz b y z,x≠ .appf sz b y z) (h'':∀ sz z len parts,x≠ .bslf sz z len parts) (he:evalD G cI pl x t H=some r):evalOp G noHp cI noH pl x t H=some r:=by
 cases x<;>first | exact he | exact (h _ _ rfl).elim | exact (h' _ _ _ _ rfl).elim | exact (h'' _ _ _ _ rfl).elim | (simp only [evalD] at he;split at he;exact he;simp at he)
theorem mkOp_dst {js:List Nat} (ops:Array Oper) (o:Oper) (r:ROp):(mkOp P js ops o r).dst=r.dst∧(mkOp P js ops o r).guard=r.guard:=by
 unfold mkOp
 split
 ·split
  ·exact ⟨rfl,rfl⟩
  ·split<;>exact ⟨rfl,rfl⟩
  ·exact ⟨rfl,rfl⟩
 ·split<;>exact ⟨rfl,rfl⟩
 ·split<;>exact ⟨rfl,rfl⟩
 ·exact ⟨rfl,rfl⟩
theorem mkOp_op {js:List Nat} (ops:Array Oper) (o:Oper) (r:ROp):mkOp P js ops o r=r∨(∃ f args,r.op= .call f args∧(mkOp P js ops o r).op= .mkc f args)∨∃ x y,r.op=x∧(mkOp P js ops o r).op=y∧(x.isAlloc=true∧y.isAlloc=true)∧∀ (G:Nat→List AV) (cI:CI) (pl:Nat) (t:List AV) (H:List Obj),∃ w,evalD G cI pl y t H=frzRes w (evalOp G noHp cI noH pl x t H):=by
 unfold mkOp
 split
 ·rename_i f args hr
  split
  ·exact .inr (.inl ⟨f,args,hr,rfl⟩)
  ·split
   ·exact .inr (.inl ⟨f,args,hr,rfl⟩)
   ·exact .inl rfl
  ·exact .inl rfl
 ·rename_i sz b x y hr
  split
  ·exact .inr (.inr ⟨_,_,hr,rfl,⟨rfl,rfl⟩,fun G cI pl t H=>⟨_,rfl⟩⟩)
  ·exact .inl rfl
 ·rename_i sz z len parts hr
  split
  ·exact .inr (.inr ⟨_,_,hr,rfl,⟨rfl,rfl⟩,fun G cI pl t H=>⟨_,rfl⟩⟩)
  ·exact .inl rfl
 ·exact .inl rfl
theorem mkOps_get {js:List Nat} {ops:Array Oper} {l:List ROp} {i:Nat} (hi:i < ops.size) (hl:i < l.length):∃ h:i < (mkOps P js ops l).length,(mkOps P js ops l)[i]=mkOp P js ops ops[i] l[i]:=by
 refine ⟨by simp [mkOps];omega,by simp [mkOps]⟩
theorem opsD_sound (henv:EnvOk P E) (hsnd:∀ hs code,Snd P E ex (comp P hs code) code) {js:List Nat} (ops:Array Oper) (rl:List (Nat×ROp)) (l2:List Nat) {b0:Nat} {ρ:Option Nat} {lo:Nat→Prop} {F:Nat→Prop} {base:Nat}
 {Q:Exit→Act→World→Prop}:
 ∀ (l:List Nat) {c:Ctx} {t t':List AV} {H H':List Obj} {fs:List FP} {a:Act},(∀ i∈l,∃ h:i < ops.size,∃ k,rl.getD i (0,default)=(k,mkOp P js ops ops[i] (compOper P ops ops[i])))→FR lo (fo P F) E.glob c ⟨t,H⟩ a→base≤c.H.length→
  runD E.glob (cIF E.fns ex) b0 (l.map fun i=>rl.getD i (0,default)) t H=some (t',H',fs)→
  (∀ d a',FR lo (fo P F) E.glob d ⟨t',H'⟩ a'→Fut base c d→wpOpsIn (wd ρ) 0 P ops Q l2 a' d.w)→wpOpsIn (wd ρ) 0 P ops Q (l++l2) a c.w
 | [],c,t,t',H,H',fs,a,_,h,_,hr,hQ=>by
  simp only [List.map_nil,runD,Option.some.injEq,Prod.mk.injEq] at hr
  obtain ⟨rfl,rfl,_⟩:=hr
  exact hQ c a h (Fut.refl _ _)
 | i::l,c,t,t',H,H',fs,a,hl,h,hbase,hr,hQ=>by
  obtain ⟨hi,k,hget⟩:=hl i (by simp)
  have hoi:ops[i]?=some ops[i]:=Array.getElem?_eq_getElem hi
  simp only [List.map_cons,hget] at hr
  simp only [List.cons_append,wpOpsIn,hoi]
  generalize ops[i]=o at hr ⊢
  have hdst:(mkOp P js ops o (compOper P ops o)).dst=o.dst:=(mkOp_dst (P:=P) ops o _).1.trans (dst_comp (P:=P) ops o)
  have hgd:(mkOp P js ops o (compOper P ops o)).guard=(compOper P ops o).guard:=(mkOp_dst (P:=P) ops o _).2
  have nobad:∀ pl x,evalOp E.glob noHp (cIF E.fns ex) noH pl .bad t H=some x→False:=by
   intro pl x hx;simp [evalOp,RO.kind,evalW] at hx
  rw [runD] at hr
  split at hr
  case h_2=>simp at hr
  rename_i v H1 f hact
  split at hr
  case h_2=>simp at hr
  rename_i t1 H2 fs1 hr1
  simp only [Option.some.injEq,Prod.mk.injEq] at hr
  obtain ⟨rfl,rfl,_⟩:=hr
  rw [hdst] at hr1
  unfold actD at hact
  rw [hgd] at hact
  split at hact
  ·rename_i hw
   split at hact
   case isFalse=>simp at hact
   rename_i hpl
   split at hact
   case h_2=>simp at hact
   rename_i u H3 hev
   simp only [Option.some.injEq,Prod.mk.injEq] at hact
   obtain ⟨rfl,rfl,_⟩:=hact
   rcases mkOp_op (P:=P) ops o (compOper P ops o) with hmk | ⟨f,args,hca,hmk⟩ | ⟨x,y,hca,hmk,⟨hal,hyal⟩,hfz⟩
   ·rw [hmk] at hev hpl
    have hev':evalOp E.glob noHp (cIF E.fns ex) noH (b0+k) (compOper P ops o).op t H=some (u,H3):=by
     have:∀ f args,(compOper P ops o).op≠ .mkc f args:=by
      intro f args e
      rcases op_comp (P:=P) ops o with hop | hop
      ·rw [hop] at e;exact comp_nomk o f args e
      ·rw [hop] at e;simp at e
     have this':∀ sz b y z,(compOper P ops o).op≠ .appf sz b y z:=by
      intro sz b y z e
      rcases op_comp (P:=P) ops o with hop | hop
      ·rw [hop] at e;exact comp_noappf o sz b y z e
      ·rw [hop] at e;simp at e
     have this'':∀ sz z len parts,(compOper P ops o).op≠ .bslf sz z len parts:=by
      intro sz b y z e
      rcases op_comp (P:=P) ops o with hop | hop
      ·rw [hop] at e;exact comp_nobslf o sz b y z e
      ·rw [hop] at e;simp at e
     exact evalD_nomk this this' this'' hev
    rcases op_comp (P:=P) ops o with hop | hop
    ·rw [hop] at hev' hpl
     rcases want_V (P:=P) h.tr o hw with hwant | ⟨hb,_⟩
     ·rw [if_pos hwant]
      refine op_sound henv hsnd (.inr rfl) h o (fun ha=> .inl (plOk_lt hpl ha)) hev' fun d a' hd hfut=>?_
      refine opsD_sound henv hsnd ops rl l2 l (fun j hj=>hl j (by simp [hj])) hd (Nat.le_trans hbase (hfut.len (Nat.le_refl _))) hr1 fun d' a'' hd' hfut'=>hQ d' a'' hd' ?_
      exact Fut.trans ⟨hfut.size,hfut.keep,fun x v hx=>hfut.vals x v (bel_mono hbase x hx),hfut.owned,fun hn=>Nat.le_trans hn (hfut.len (Nat.le_refl _)),hfut.same,hfut.ownedS⟩ hfut'
     ·rw [←hop,hb] at hev';exact (nobad _ _ hev').elim
    ·rw [hop] at hev';exact (nobad _ _ hev').elim
   ·rw [hmk] at hev hpl
    have hop:compOp P o= .call f args:=by
     rcases op_comp (P:=P) ops o with hop | hop
     ·rw [←hop];exact hca
     ·rw [hop] at hca;simp at hca
    rcases want_V (P:=P) h.tr o hw with hwant | ⟨hb,_⟩
    ·rw [if_pos hwant]
     refine opmk_sound henv hsnd h o hop (.inl (plOk_lt hpl rfl)) hev fun d a' hd hfut=>?_
     refine opsD_sound henv hsnd ops rl l2 l (fun j hj=>hl j (by simp [hj])) hd (Nat.le_trans hbase (hfut.len (Nat.le_refl _))) hr1 fun d' a'' hd' hfut'=>hQ d' a'' hd' ?_
     exact Fut.trans ⟨hfut.size,hfut.keep,fun x v hx=>hfut.vals x v (bel_mono hbase x hx),hfut.owned,fun hn=>Nat.le_trans hn (hfut.len (Nat.le_refl _)),hfut.same,hfut.ownedS⟩ hfut'
    ·rw [hb] at hca;simp at hca
   ·rw [hmk] at hev hpl
    have hop:compOp P o=x:=by
     rcases op_comp (P:=P) ops o with hop | hop
     ·rw [←hop];exact hca
     ·rw [hop] at hca;subst hca;simp [RO.isAlloc] at hal
    obtain ⟨w,hfw⟩:=hfz E.glob (cIF E.fns ex) (b0+k) t H
    rw [hfw] at hev
    cases happ:evalOp E.glob noHp (cIF E.fns ex) noH (b0+k) x t H with
    | none=>rw [happ] at hev;simp [frzRes] at hev
    | some q=>
    obtain ⟨v1,Ha⟩:=q
    rw [happ] at hev
    unfold frzRes at hev
    dsimp only at hev
    split at hev
    case isFalse=>simp at hev
    split at hev
    case h_2=>simp at hev
    rename_i r Hb hf
    simp only [Option.some.injEq,Prod.mk.injEq] at hev
    obtain ⟨rfl,rfl⟩:=hev
    have hev':evalOp E.glob noHp (cIF E.fns ex) noH (b0+k) (compOp P o) t H=some (v1,Ha):=by rw [hop];exact happ
    rcases want_V (P:=P) h.tr o hw with hwant | ⟨hb,_⟩
    ·rw [if_pos hwant]
     refine op_sound henv hsnd (.inr rfl) h o (fun ha=> .inl (plOk_lt hpl hyal)) hev' fun d a' hd hfut=>?_
     obtain ⟨d2,g1,g2,g3⟩:=frz_dst henv.glob hd hf
     rw [←g1]
     refine opsD_sound henv hsnd ops rl l2 l (fun j hj=>hl j (by simp [hj])) g2 ((g3 base).len (Nat.le_trans hbase (hfut.len (Nat.le_refl _)))) hr1 fun d' a'' hd' hfut'=>hQ d' a'' hd' ?_
     exact Fut.trans ⟨hfut.size,hfut.keep,fun x v hx=>hfut.vals x v (bel_mono hbase x hx),hfut.owned,fun hn=>Nat.le_trans hn (hfut.len (Nat.le_refl _)),hfut.same,hfut.ownedS⟩ ((g3 base).trans hfut')
    ·rw [hb] at hca;rw [←hca] at hal;simp [RO.isAlloc] at hal
  ·rename_i hw
   simp only [Option.some.injEq,Prod.mk.injEq] at hact
   obtain ⟨rfl,rfl,_⟩:=hact
   have hwant:Region.wanted o (yielded ops a.tmps)=false:=by
    rcases want_V (P:=P) h.tr o hw with e | ⟨_,e⟩
    ·exact e
    ·rw [e] at hw;simp [want] at hw
   rw [if_neg (by simp [hwant])]
   refine ⟨fun _ _=>trivial,?_⟩
   exact opsD_sound henv hsnd ops rl l2 l (fun j hj=>hl j (by simp [hj])) ⟨h.sr,h.tr.put o.dst (undef_V c),h.hH,by rw [put_defers];exact h.df,h.gl⟩ hbase hr1 hQ
  ·simp at hact
end
end Go.Am
