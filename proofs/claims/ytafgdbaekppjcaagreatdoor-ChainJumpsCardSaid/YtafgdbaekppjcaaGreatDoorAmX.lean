/- Parts of my machine and its laws, joined: AmX AmXa. No condition. -/
import Derived.Test.YtafgdbaekppjcaaGreatDoorAmW
set_option linter.unusedSectionVars false
set_option linter.unusedVariables false
set_option linter.unusedSimpArgs false
section
namespace Go.Am
section
variable {P:Program} {E:Env}
theorem TR.put {c:Ctx} {t:List AV} {a:Act} (h:TR c t a.tmps) (d:Option Nat) {x:AV} {v:Value} (hx:V c x v):TR c (cR t d x) (a.put d v).tmps:=by
 cases d with
 | none=>exact h
 | some d=>
  refine ⟨by simp [cR,Act.put,h.1],fun i hi hj=>?_⟩;have hi':i < t.length:=by simpa [cR] using hi
  have hj':i < a.tmps.size:=by simpa [Act.put] using hj
  by_cases hd:d=i
  ·subst hd;have e1:(cR t (some d) x)[d]'hi=x:=by simp [cR]
   have e2:(a.put (some d) v).tmps[d]'hj=v:=by simp [Act.put]
   rw [e1,e2];exact hx
  ·have e1:(cR t (some d) x)[i]'hi=t[i]:=by simp only [cR];rw [zbw hd]
   have e2:(a.put (some d) v).tmps[i]'hj=a.tmps[i]:=by simp only [Act.put];rw [Array.getElem_setIfInBounds_ne hj' hd]
   rw [e1,e2];exact h.2 i hi' hj'
theorem eA (a:Act) (d:Option Nat) (v:Value):(a.put d v).defers=a.defers:=by cases d<;>rfl
theorem B8 (c:Ctx):V c (.aY []) undef:= .aY [] #[] rfl fun i hi=>by simp at hi
theorem sX {c:Ctx} {ops:Array Oper} {t:List AV} {a:Act} (ht:TR c t a.tmps) (o:Oper) {b:Bool} (h:want t (aB P ops o).guard=some b):
 Region.wanted o (yielded ops a.tmps)=b\/((aB P ops o).op= .bad/\(aB P ops o).guard=none):=by
 unfold aB at h ⊢
 cases hg:o.guard with
 | none=>simp only [hg,want] at h;injection h with h;left;simp [Region.wanted,hg,h]
 | some g=>
  obtain ⟨j,q⟩:=g;simp only [hg] at h ⊢
  cases hd:wq ops j with
  | none=>right;exact ⟨rfl,rfl⟩
  | some d=>
   left;simp only [hd,want] at h;have FV:(ops[j]?).bind (·.dst)=some d:=by
    unfold wq at hd;split at hd
    ·rename_i o' ho';rw [ho'];exact hd
    ·simp at hd
   split at h
   ·rename_i b' hb';injection h with h
    obtain ⟨hi,he⟩:=getD_some hb' (by simp);have hi':d < a.tmps.size:=by rw [ht.1];exact hi
    have hv:=ht.2 d hi hi';rw [he] at hv;have:a.tmps[d]= .bool b':=by
     generalize a.tmps[d]=u at hv ⊢
     cases hv;rfl
    simp only [Region.wanted,hg,yielded,FV,za,zam hi',this];rw [<-h]
    cases b'<;>cases q<;>rfl
   ·rename_i hb';injection h with h
    obtain ⟨hi,he⟩:=getD_some hb' (by simp);have hi':d < a.tmps.size:=by rw [ht.1];exact hi
    have hv:=ht.2 d hi hi';rw [he] at hv;have:a.tmps[d]= .tuple #[]:=by
     generalize a.tmps[d]=u at hv ⊢
     cases hv with
     | aY _ vs hs _=>
      have:vs=#[]:=by simpa using hs
      rw [this]
    simp only [Region.wanted,hg,yielded,FV,za,zam hi',this];rw [<-h];rfl
   ·simp at h
theorem tW (o:Oper):(∀ f args,cj P o= .call f args->∃ c,o.op= .call c/\c.callee= .value (.func f)/\args=c.args.toList.map cx)/\
 (∀ x args,cj P o= .gf x args->∃ c y,o.op= .call c/\c.callee= .value y/\x=cx y/\args=c.args.toList.map cx):=by
 unfold cj
 cases hop:o.op with
 | call cl=>
  simp only;constructor
  ·intro f args h;split at h
   ·rename_i f' hc;injection h with h1 h2
    exact ⟨cl,rfl,by rw [hc,h1],h2.symm⟩
   ·simp at h
   ·(repeat' split at h)<;>simp at h
   ·(repeat' split at h)<;>simp at h
   ·simp at h
   ·simp at h
   ·(repeat' split at h)<;>simp at h
   ·simp at h
  ·intro x args h;split at h
   ·simp at h
   ·rename_i y _ hc;injection h with h1 h2
    exact ⟨cl,y,rfl,hc,h1.symm,h2.symm⟩
   ·(repeat' split at h)<;>simp at h
   ·(repeat' split at h)<;>simp at h
   ·simp at h
   ·simp at h
   ·(repeat' split at h)<;>simp at h
   ·simp at h
 | binOp op ty x y yt=>
  simp only;constructor
  ·intro f args h;split at h
   ·unfold fc at h;(repeat' split at h)<;>simp at h
   ·unfold fc at h;(repeat' split at h)<;>simp at h
   ·simp at h
  ·intro f args h;split at h
   ·unfold fc at h;(repeat' split at h)<;>simp at h
   ·unfold fc at h;(repeat' split at h)<;>simp at h
   ·simp at h
 | makeFunc fn first cap=>cases fn<;>simp only<;>constructor<;>intro f args h<;>(repeat' split at h)<;>simp at h
 | slice ty x lo hi mx=>cases mx<;>simp only<;>constructor<;>intro f args h<;>(repeat' split at h)<;>simp at h
 | makeMap ty r=>cases r<;>simp only<;>constructor<;>intro f args h<;>simp at h
 | next x b=>cases b<;>simp only<;>constructor<;>intro f args h<;>simp at h
 | _=>simp only;constructor<;>intro f args h<;>(repeat' split at h)<;>simp at h
theorem td {f:Nat} {fn:Func} (hf:P.funcs[f]?=some fn) (hn:(fn.name== "runtime.NumGoroutine")=false) {code:Code} (hb:fn.body=some code) (args:Array Value) (w:World):
 (callFunc f args).run P w= .ok (.enter f args) w:=by
 have hn':¬ fn.name= "runtime.NumGoroutine" :=by simpa using hn
 unfold callFunc;simp [hf,hn',hb]
variable {ex:EX}
theorem PJ {G:Nat->List AV} {t:List AV} {H:List Obj} {x:RO} (h:x.dP=false) (p q:Nat):evalW G t H p x=evalW G t H q x:=by
 cases x<;>first | rfl | (simp [RO.dP] at h)
theorem xP (b7:iH P E) (fP:∀ hs code,AQ P E ex (comp P hs code) code) {hp:Nat->Bool} {cH:CH} (Qu:cH=AR E.fns ex\/cH=kY) {ρ:Option Nat} {lo:Nat->Prop} {F:Nat->Prop} {c:Ctx} {t:List AV} {H:List Obj} {a:Act}
 (h:FR lo (fo P F) E.aF c ⟨t,H⟩ a) (o:Oper) {v:AV} {H':List Obj} {pl:Nat} (dg:(cj P o).dP=true->Room H pl) (ek:evalOp E.aF hp (m6 E.fns ex) cH pl (cj P o) t H=some (v,H'))
 {next:Act->World->Prop} {Q:Exit->Act->World->Prop} (hnext:∀ d u,FR lo (fo P F) E.aF d ⟨cR t o.dst v,H'⟩ (a.put o.dst u)->cK c.H.length c d->next (a.put o.dst u) d.w):
 o.wpIn (wd ρ) 0 P a c.w next Q:=by
 have Fy:∀ q,o.op≠ .defer q:=by
  intro q hq;have:cj P o= .bad:=by unfold cj;rw [hq]
  rw [this] at ek;simp [evalOp,RO.kind,evalW] at ek
 refine ⟨fun _ _=>trivial,?_⟩;rw [Oper.semAt_eq _ _ _ Fy];have hH:c.H=H:=h.hH;unfold evalOp at ek
 cases hk:(cj P o).kind with
 | pure=>
  rw [hk] at ek;simp only at ek;split at ek
  case h_2=>simp at ek
  rename_i u hu;simp only [za2,za4] at ek;obtain ⟨rfl,rfl⟩:=ek;obtain ⟨v',e1,e2⟩:=DF (P:=P) h.sr.hr h.tr h.gl o (.inl hu);rw [e1];exact hnext c _ ⟨h.sr,h.tr.put o.dst e2,hH,by rw [eA];exact h.df,h.gl⟩ (cK.refl _ _)
 | read=>
  rw [hk] at ek;simp only at ek;split at ek
  case h_2=>simp at ek
  rename_i u hu;simp only [za2,za4] at ek;obtain ⟨rfl,rfl⟩:=ek;rw [<-hH] at hu;obtain ⟨v',e1,e2⟩:=DF (P:=P) h.sr.hr h.tr h.gl o (.inr hu);rw [e1];exact hnext c _ ⟨h.sr,h.tr.put o.dst e2,hH,by rw [eA];exact h.df,h.gl⟩ (cK.refl _ _)
 | write=>
  rw [hk] at ek;simp only at ek;have aeM:∃ q,Room H q/\evalW E.aF t H q (cj P o)=some (v,H'):=by
   cases ha:(cj P o).dP with
   | true=>exact ⟨pl,dg ha,ek⟩
   | false=>exact ⟨H.length,.inr rfl,by rw [PJ ha H.length pl];exact ek⟩
  obtain ⟨q,hq,ek⟩:=aeM;rw [<-hH] at ek hq;obtain ⟨d,d1,d2,d3⟩:=Pr (P:=P) h.sr h.tr h.gl o hq ek;have CL:gU d E.aF:=h.gl.oQ b7.aF (d2.2.2 0);rcases d3 with ⟨v',e1,e2⟩ | ⟨e1,rfl⟩
  ·rw [e1];exact hnext d _ ⟨d2.1,(h.tr.hY d2.2.1).put o.dst e2,d1,by rw [eA];exact h.df.oQ h.sr (d2.2.2 0),CL⟩ (d2.2.2 _)
  ·rw [e1];exact hnext d _ ⟨d2.1,(h.tr.hY d2.2.1).put o.dst (B8 d),d1,by rw [eA];exact h.df.oQ h.sr (d2.2.2 0),CL⟩ (d2.2.2 _)
 | call=>
  rw [hk] at ek;simp only at ek;have fin:∀ (f:Nat) (xs:List AV) (vs:List Value) (args:Array Value),args=vs.toArray->bJ hp (m6 E.fns ex) cH f xs H=some (v,H')->vs.length=xs.length->
   (∀ i (hi:i < xs.length) (hj:i < vs.length),V c xs[i] vs[i])->(execOp a.eval o).run P c.w=(callFunc f args).run P c.w->o.uponIn (wd ρ) 0 P a next Q ((execOp a.eval o).run P c.w):=by
   intro f xs vs args hargs hd hl hv hrun;subst hargs;rw [<-hH] at hd;have o9:=GY b7 fP Qu hd h.sr h.gl hl hv;have hent:∃ fn code,P.funcs[f]?=some fn/\(fn.name== "runtime.NumGoroutine")=false/\fn.body=some code:=by
    have:∃ rf,E.fns f=some rf:=by
     unfold bJ at hd;have hh:∀ r,cH (some f) xs c.H=some r->∃ rf,E.fns f=some rf:=by
      intro r hr;rcases Qu with rfl | rfl
      ·unfold AR at hr;dsimp only at hr;split at hr
       ·rename_i rf qA;exact ⟨rf,qA⟩
       ·simp at hr
      ·simp [kY] at hr
     split at hd
     ·exact hh _ hd
     ·split at hd
      ·split at hd
       ·rename_i r hr;unfold m6 at hr;split at hr
        ·rename_i rf qA;exact ⟨rf,qA⟩
        ·simp at hr
       ·simp at hd
      ·exact hh _ hd
    obtain ⟨rf,qA⟩:=this;obtain ⟨fn,hs,hf,hc⟩:=b7.fns f rf qA;obtain ⟨code,hb,hn,_⟩:=j5 hc;exact ⟨fn,code,hf,hn,hb⟩
   obtain ⟨fn,code,hf,hn,hb⟩:=hent;rw [hrun,td hf hn hb];refine ⟨fun h=>by simp [wd,Fence.wide] at h,wQ (o9.mono ?_)⟩;rintro e w' ⟨u,d,rfl,rfl,d1,d2,d3,d4⟩;refine hnext d _ ⟨d2,?_,d1,by rw [eA];exact h.df.oQ h.sr d3,h.gl.oQ b7.aF d3⟩ d3;refine TR.put ⟨h.tr.1,fun i hi hj=>d3.vals _ _ ((h.tr.2 i hi hj).bD) (h.tr.2 i hi hj)⟩ o.dst d4
  split at ek
  ·rename_i f args hc;obtain ⟨cl,hop,mu,rfl⟩:=(tW (P:=P) o).1 f args hc;refine fin f _ (cl.args.toList.map a.eval) ((cl.args.map a.eval)++#[]) (by apply zbp;simp) ek (by simp) (sN h.tr h.gl cl.args.toList) ?_;simp only [execOp,hop,resolve,mu,Act.eval,Deferred.ofValue];simp [invoke]
  ·rename_i x args hc;obtain ⟨cl,y,hop,mu,rfl,rfl⟩:=(tW (P:=P) o).2 x args hc;split at ek
   case h_4=>simp at ek
   case h_2=>
    rename_i f cap KW;have hy:=vL h.tr h.gl y;have LA:(cx y).ev E.aF t= .eD f cap:=KW;rw [show (⟨t,H⟩:St).tmps=t from rfl,LA] at hy;generalize UJ:a.eval y=yv at hy
    cases hy with
    | eD _ _ cs hs hv=>
     refine fin f _ (cs.toList++cl.args.toList.map a.eval) ((cs++cl.args.map a.eval)++#[]) (by apply zbp;simp) ek (by simp [hs]) ?_ ?_
     ·intro i hi hj;have ha:=sN h.tr h.gl cl.args.toList;by_cases hlt:i < cap.length
      ·rw [zaU hlt,zaU (by simp;omega)];simpa using hv i hlt (by omega)
      ·have hcs:cs.toList.length=cap.length:=by simp [hs]
       rw [zaQ (by omega),zaQ (by omega)];simp only [hcs];exact ha _ _ _
     ·simp only [execOp,hop,resolve,mu,UJ,Deferred.ofValue];simp [invoke]
   case h_3=>
    rename_i l KW;have ek:cH none (.fA l::(cl.args.toList.map cx).map (·.ev E.aF t)) H=some (v,H'):=ek;rcases Qu with rfl | rfl
    case inr=>simp [kY] at ek
    have hr:X4 ex (.fA l::(cl.args.toList.map cx).map (·.ev E.aF t)) c.H=some (v,H'):=by rw [hH];exact ek
    have hy:=vL h.tr h.gl y;have LA:(cx y).ev E.aF t= .fA l:=KW;rw [show (⟨t,H⟩:St).tmps=t from rfl,LA] at hy;generalize UJ:a.eval y=yv at hy
    cases hy with
    | fA _ b hb=>
     have hvs:=sN h.tr h.gl cl.args.toList;obtain ⟨fn,tmps,b6,body,hrun,Xz⟩:=Kg b7 fP h.sr h.gl hb (vs:=(cl.args.toList.map a.eval).toArray) (by simp) (fun i hi hj=>hvs i hi (by simpa using hj)) hr;have aeN:(execOp a.eval o).run P c.w= .ok (.round b fn tmps b6 body) c.w:=by
      rw [<-hrun];have:(cl.args.toList.map a.eval).toArray=cl.args.map a.eval:=by apply zbp;simp
      rw [this];simp only [execOp,hop,resolve,mu,UJ,Deferred.ofValue];simp [invoke]
     rw [aeN,Oper.uponIn_round];have S3:RoundIn (wd ρ) 0 P b fn tmps b6 body c.w _:=Xz;refine ⟨fun h=>by simp [wd,Fence.wide] at h,S3.mono ?_⟩;rintro e w' ⟨u,d,rfl,rfl,d1,d2,d3,d4⟩;refine hnext d _ ⟨d2,?_,d1,by rw [eA];exact h.df.oQ h.sr d3,h.gl.oQ b7.aF d3⟩ d3;exact TR.put ⟨h.tr.1,fun i hi hj=>d3.vals _ _ ((h.tr.2 i hi hj).bD) (h.tr.2 i hi hj)⟩ o.dst d4
   rename_i f cap KW;have hy:=vL h.tr h.gl y;have LA:(cx y).ev E.aF t= .fn f cap:=KW;rw [show (⟨t,H⟩:St).tmps=t from rfl,LA] at hy;generalize UJ:a.eval y=yv at hy
   cases hy with
   | fn _ _ cs hs hv=>
    refine fin f _ (cl.args.toList.map a.eval++cs.toList) ((#[]++cl.args.map a.eval)++cs) (by apply zbp;simp) ek (by simp [hs]) ?_ ?_
    ·intro i hi hj;have ha:=sN h.tr h.gl cl.args.toList;by_cases hlt:i < cl.args.toList.length
     ·rw [zaU (by simpa using hlt),zaU (by simpa using hlt)];exact ha i (by simpa using hlt) (by simpa using hlt)
     ·rw [zaQ (by simpa using hlt),zaQ (by simpa using hlt)];simp only [zaa,zbC];exact hv _ _ _
    ·simp only [execOp,hop,resolve,mu,UJ,Deferred.ofValue];simp [invoke]
  ·simp at ek
theorem G4 (b7:iH P E) (fP:∀ hs code,AQ P E ex (comp P hs code) code) {ρ:Option Nat} {lo:Nat->Prop} {F:Nat->Prop} {c:Ctx} {t:List AV} {H:List Obj} {a:Act}
 (h:FR lo (fo P F) E.aF c ⟨t,H⟩ a) (o:Oper) {f:Nat} {args:List RX} (hco:cj P o= .call f args) {v:AV} {H':List Obj} {pl:Nat} (dg:Room H pl)
 (ek:mkObj (m6 E.fns ex) f (args.map (·.ev E.aF t)) pl H=some (v,H'))
 {next:Act->World->Prop} {Q:Exit->Act->World->Prop} (hnext:∀ d u,FR lo (fo P F) E.aF d ⟨cR t o.dst v,H'⟩ (a.put o.dst u)->cK c.H.length c d->next (a.put o.dst u) d.w):
 o.wpIn (wd ρ) 0 P a c.w next Q:=by
 have Fy:∀ q,o.op≠ .defer q:=by
  intro q hq;have:cj P o= .bad:=by unfold cj;rw [hq]
  rw [this] at hco;simp at hco
 refine ⟨fun _ _=>trivial,?_⟩;rw [Oper.semAt_eq _ _ _ Fy];have hH:c.H=H:=h.hH;obtain ⟨cl,hop,mu,rfl⟩:=(tW (P:=P) o).1 f args hco;rw [<-hH] at ek dg;have hvs:=sN h.tr h.gl cl.args.toList;have o9:=PD b7 fP ek dg h.sr h.gl (vs:=cl.args.toList.map a.eval) (by simp) hvs;have hent:∃ fn code,P.funcs[f]?=some fn/\(fn.name== "runtime.NumGoroutine")=false/\fn.body=some code:=by
  have:∃ rf,E.fns f=some rf:=by
   unfold mkObj at ek;split at ek
   case h_2=>simp at ek
   split at ek
   case h_2=>simp at ek
   rename_i hr;unfold m6 at hr;split at hr
   ·rename_i rf qA;exact ⟨rf,qA⟩
   ·simp at hr
  obtain ⟨rf,qA⟩:=this;obtain ⟨fn,hs,hf,hc⟩:=b7.fns f rf qA;obtain ⟨code,hb,hn,_⟩:=j5 hc;exact ⟨fn,code,hf,hn,hb⟩
 obtain ⟨fn,code,hf,hn,hb⟩:=hent;have hrun:(execOp a.eval o).run P c.w=(callFunc f (cl.args.toList.map a.eval).toArray).run P c.w:=by
  have:(cl.args.toList.map a.eval).toArray=(cl.args.map a.eval)++#[]:=by apply zbp;simp
  rw [this];simp only [execOp,hop,resolve,mu,Act.eval,Deferred.ofValue];simp [invoke]
 rw [hrun,td hf hn hb];refine ⟨fun h=>by simp [wd,Fence.wide] at h,wQ (o9.mono ?_)⟩;rintro e w' ⟨u,d,rfl,rfl,d1,d2,dV,d3,d4⟩;refine hnext d _ ⟨d2,?_,d1,by rw [eA];exact h.df.oQ h.sr (d3 0),h.gl.oQ b7.aF (d3 0)⟩ (d3 _);exact TR.put ⟨h.tr.1,fun i hi hj=>dV _ _ (h.tr.2 i hi hj)⟩ o.dst d4
theorem gp (b7:iH P E) (fP:∀ hs code,AQ P E ex (comp P hs code) code) {hp:Nat->Bool} {cH:CH} (Qu:cH=AR E.fns ex\/cH=kY) (ops:Array Oper) (rl:List bH) (l2:List Nat) {ρ:Option Nat} {lo:Nat->Prop} {F:Nat->Prop} {base:Nat} {Q:Exit->Act->World->Prop}:
 ∀ (l:List Nat) {c:Ctx} {t t':List AV} {H H':List Obj} {a:Act},(∀ i∈l,∃ h:i < ops.size,rl.getD i default=aB P ops ops[i])->FR lo (fo P F) E.aF c ⟨t,H⟩ a->base<=c.H.length->
  bP E.aF hp (m6 E.fns ex) cH (l.map fun i=>rl.getD i default) t H=some (t',H')->
  (∀ d a',FR lo (fo P F) E.aF d ⟨t',H'⟩ a'->cK base c d->wpOpsIn (wd ρ) 0 P ops Q l2 a' d.w)->wpOpsIn (wd ρ) 0 P ops Q (l++l2) a c.w
 | [],c,t,t',H,H',a,_,h,_,hr,hQ=>by
  simp only [List.map_nil,bP,za2,za4] at hr;obtain ⟨rfl,rfl⟩:=hr;exact hQ c a h (cK.refl _ _)
 | i::l,c,t,t',H,H',a,hl,h,hbase,hr,hQ=>by
  obtain ⟨hi,aL⟩:=hl i (by simp);have hoi:ops[i]?=some ops[i]:=zam hi;simp only [za5,aL] at hr;simp only [zaM,wpOpsIn,hoi];generalize ops[i]=o at hr ⊢;have FV:(aB P ops o).dst=o.dst:=by
   unfold aB
   cases hg:o.guard with
   | none=>rfl
   | some g=>obtain ⟨j,q⟩:=g;simp only;cases hd:wq ops j<;>rfl
  have hop:(aB P ops o).op=cj P o\/(aB P ops o).op= .bad:=by
   unfold aB
   cases hg:o.guard with
   | none=>left;rfl
   | some g=>
    obtain ⟨j,q⟩:=g;simp only
    cases hd:wq ops j with
    | none=>right;rfl
    | some d=>left;rfl
  have De:∀ x,evalOp E.aF hp (m6 E.fns ex) cH H.length .bad t H=some x->False:=by
   intro x hx;simp [evalOp,RO.kind,evalW] at hx
  rw [bP] at hr;split at hr
  ·rename_i hw;split at hr
   case h_2=>simp at hr
   rename_i v H1 ek;rcases hop with hop | hop
   ·rw [hop] at ek;rw [FV] at hr;rcases sX (P:=P) h.tr o hw with nG | ⟨hb,_⟩
    ·rw [if_pos nG];refine xP b7 fP Qu h o (fun _=> .inr rfl) ek fun d a' hd aU=>?_
     refine gp b7 fP Qu ops rl l2 l (fun j hj=>hl j (by simp [hj])) hd (zaI hbase (aU.len (za7 _))) hr fun d' FA hd' jJ=>hQ d' FA hd' ?_
     exact cK.trans ⟨aU.size,aU.keep,fun x v hx=>aU.vals x v (fe hbase x hx),aU.owned,fun hn=>zaI hn (aU.len (za7 _)),aU.same,aU.jL⟩ jJ
    ·rw [<-hop,hb] at ek;exact (De _ ek).elim
   ·rw [hop] at ek;exact (De _ ek).elim
  ·rename_i hw;rw [FV] at hr;have nG:Region.wanted o (yielded ops a.tmps)=false:=by
    rcases sX (P:=P) h.tr o hw with e | ⟨_,e⟩
    ·exact e
    ·rw [e] at hw;simp [want] at hw
   rw [if_neg (by simp [nG])];refine ⟨fun _ _=>trivial,?_⟩;exact gp b7 fP Qu ops rl l2 l (fun j hj=>hl j (by simp [hj])) ⟨h.sr,h.tr.put o.dst (B8 c),h.hH,by rw [eA];exact h.df,h.gl⟩ hbase hr hQ
  ·simp at hr
theorem PK (ops:Array Oper) (o:Oper):(aB P ops o).dst=o.dst:=by
 unfold aB
 cases hg:o.guard with
 | none=>rfl
 | some g=>obtain ⟨j,q⟩:=g;simp only;cases hd:wq ops j<;>rfl
theorem ox (ops:Array Oper) (o:Oper):(aB P ops o).op=cj P o\/(aB P ops o).op= .bad:=by
 unfold aB
 cases hg:o.guard with
 | none=>left;rfl
 | some g=>
  obtain ⟨j,q⟩:=g;simp only
  cases hd:wq ops j with
  | none=>right;rfl
  | some d=>left;rfl
theorem Kp (o:Oper) (f:Nat) (args:List RX):cj P o≠ .iD f args:=by
 intro h;unfold cj at h
 cases hop:o.op with
 | binOp op ty x y yt=>
  simp only [hop] at h;split at h
  ·unfold fc at h;(repeat' split at h)<;>simp at h
  ·unfold fc at h;(repeat' split at h)<;>simp at h
  ·simp at h
 | makeFunc fn first cap=>cases fn<;>simp only [hop] at h<;>(repeat' split at h)<;>simp at h
 | slice ty x lo hi mx=>cases mx<;>simp only [hop] at h<;>(repeat' split at h)<;>simp at h
 | makeMap ty r=>cases r<;>simp only [hop] at h<;>simp at h
 | next x b=>cases b<;>simp only [hop] at h<;>simp at h
 | _=>simp only [hop] at h;(repeat' split at h)<;>simp at h
theorem E6 (o:Oper) (sz b:Nat) (y z:RX):cj P o≠ .mo sz b y z:=by
 intro h;unfold cj at h
 cases hop:o.op with
 | binOp op ty x y yt=>
  simp only [hop] at h;split at h
  ·unfold fc at h;(repeat' split at h)<;>simp at h
  ·unfold fc at h;(repeat' split at h)<;>simp at h
  ·simp at h
 | makeFunc fn first cap=>cases fn<;>simp only [hop] at h<;>(repeat' split at h)<;>simp at h
 | slice ty x lo hi mx=>cases mx<;>simp only [hop] at h<;>(repeat' split at h)<;>simp at h
 | makeMap ty r=>cases r<;>simp only [hop] at h<;>simp at h
 | next x b=>cases b<;>simp only [hop] at h<;>simp at h
 | _=>simp only [hop] at h;(repeat' split at h)<;>simp at h
theorem E7 (o:Oper) (sz:Nat) (z:List AV) (len:Nat) (parts:List (Nat×RX)):cj P o≠ .m8 sz z len parts:=by
 intro h;unfold cj at h
 cases hop:o.op with
 | binOp op ty x y yt=>
  simp only [hop] at h;split at h
  ·unfold fc at h;(repeat' split at h)<;>simp at h
  ·unfold fc at h;(repeat' split at h)<;>simp at h
  ·simp at h
 | makeFunc fn first cap=>cases fn<;>simp only [hop] at h<;>(repeat' split at h)<;>simp at h
 | slice ty x lo hi mx=>cases mx<;>simp only [hop] at h<;>(repeat' split at h)<;>simp at h
 | makeMap ty r=>cases r<;>simp only [hop] at h<;>simp at h
 | next x b=>cases b<;>simp only [hop] at h<;>simp at h
 | _=>simp only [hop] at h;(repeat' split at h)<;>simp at h
theorem S4 {lo:Nat->Prop} {F:Fo} {G:Nat->List AV} {c:Ctx} (hG:∀ g,AV.aR 0 (G g)=true) {t:List AV} {d:Option Nat} {v r:AV} {H1 H2:List Obj} {a:Act} (h:FR lo F G c ⟨cR t d v,H1⟩ a)
 (hf:ko 0 ⟨[v],H1⟩=some ⟨[r],H2⟩):∃ e:Ctx,e.w=c.w/\FR lo F G e ⟨cR t d r,H2⟩ a/\∀ n,cK n c e:=by
 have out:cR t d v=t->cR t d r=t->∃ e:Ctx,e.w=c.w/\FR lo F G e ⟨cR t d r,H2⟩ a/\∀ n,cK n c e:=by
  intro e1 e2;rw [e1] at h;rw [e2];simp only [ko,List.getD_cons_zero] at hf;split at hf
  ·split at hf
   case h_2=>simp at hf
   rename_i sz es hl;obtain ⟨nl,hid⟩:=bB hl;split at hf
   case isFalse=>simp at hf
   rename_i hc;simp only [za2,St.mk.injEq] at hf;obtain ⟨_,rfl⟩:=hf;exact GK hG h hid (by have:=hc.2.2;simpa [cy,hid] using this)
  ·simp only [za2,St.mk.injEq] at hf;obtain ⟨_,rfl⟩:=hf;exact ⟨c,rfl,h,fun n=>cK.refl n c⟩
 cases d with
 | none=>exact out rfl rfl
 | some d=>
  rcases zak d t.length with hd | hd
  ·have hg:(t.set d v).getD d .any=v:=by simp [List.getD,hd]
   have hf':ko d ⟨t.set d v,H1⟩=some ⟨t.set d r,H2⟩:=by
    simp only [ko,List.getD_cons_zero] at hf;simp only [ko,hg];split at hf
    ·split at hf
     case h_2=>simp at hf
     split at hf
     case isFalse=>simp at hf
     rename_i hc;simp only [za2,St.mk.injEq,zbh,zaL,and_true] at hf;obtain ⟨rfl,rfl⟩:=hf;simp [*]
    ·simp only [za2,St.mk.injEq,zaL,and_true] at hf;obtain ⟨rfl,rfl⟩:=hf;first | rfl | (split;rename_i hne _ _ _ _;exact (hne _ _ _ _ rfl).elim;rfl)
   obtain ⟨e,e1,e2,e3,_⟩:=tB hG h hf';exact ⟨e,e1,e2,e3⟩
  ·have e:∀ u:AV,cR t (some d) u=t:=fun u=>by simp only [cR];exact List.set_eq_of_length_le hd
   exact out (e v) (e r)
theorem G5 {G:Nat->List AV} {cI:CI} {pl:Nat} {x:RO} {t:List AV} {H:List Obj} {r} (h:∀ f args,x≠ .iD f args) (h':∀ sz b y z,x≠ .mo sz b y z) (h'':∀ sz z len parts,x≠ .m8 sz z len parts) (he:fB G cI pl x t H=some r):evalOp G eS cI kY pl x t H=some r:=by
 cases x<;>first | exact he | exact (h _ _ rfl).elim | exact (h' _ _ _ _ rfl).elim | exact (h'' _ _ _ _ rfl).elim | (simp only [fB] at he;split at he;exact he;simp at he)
theorem Ep {js:List Nat} (ops:Array Oper) (o:Oper) (r:bH):(qO P js ops o r).dst=r.dst/\(qO P js ops o r).guard=r.guard:=by
 unfold qO;split
 ·split
  ·exact ⟨rfl,rfl⟩
  ·split<;>exact ⟨rfl,rfl⟩
  ·exact ⟨rfl,rfl⟩
 ·split<;>exact ⟨rfl,rfl⟩
 ·split<;>exact ⟨rfl,rfl⟩
 ·exact ⟨rfl,rfl⟩
theorem S5 {js:List Nat} (ops:Array Oper) (o:Oper) (r:bH):qO P js ops o r=r\/(∃ f args,r.op= .call f args/\(qO P js ops o r).op= .iD f args)\/∃ x y,r.op=x/\(qO P js ops o r).op=y/\(x.dP=true/\y.dP=true)/\∀ (G:Nat->List AV) (cI:CI) (pl:Nat) (t:List AV) (H:List Obj),∃ w,fB G cI pl y t H=eL w (evalOp G eS cI kY pl x t H):=by
 unfold qO;split
 ·rename_i f args hr;split
  ·exact .inr (.inl ⟨f,args,hr,rfl⟩)
  ·split
   ·exact .inr (.inl ⟨f,args,hr,rfl⟩)
   ·exact .inl rfl
  ·exact .inl rfl
 ·rename_i sz b x y hr;split
  ·exact .inr (.inr ⟨_,_,hr,rfl,⟨rfl,rfl⟩,fun G cI pl t H=>⟨_,rfl⟩⟩)
  ·exact .inl rfl
 ·rename_i sz z len parts hr;split
  ·exact .inr (.inr ⟨_,_,hr,rfl,⟨rfl,rfl⟩,fun G cI pl t H=>⟨_,rfl⟩⟩)
  ·exact .inl rfl
 ·exact .inl rfl
theorem Kk {js:List Nat} {ops:Array Oper} {l:List bH} {i:Nat} (hi:i < ops.size) (hl:i < l.length):∃ h:i < (pB P js ops l).length,(pB P js ops l)[i]=qO P js ops ops[i] l[i]:=by
 refine ⟨by simp [pB];omega,by simp [pB]⟩
theorem j9 (b7:iH P E) (fP:∀ hs code,AQ P E ex (comp P hs code) code) {js:List Nat} (ops:Array Oper) (rl:List (Nat×bH)) (l2:List Nat) {b0:Nat} {ρ:Option Nat} {lo:Nat->Prop} {F:Nat->Prop} {base:Nat}
 {Q:Exit->Act->World->Prop}:
 ∀ (l:List Nat) {c:Ctx} {t t':List AV} {H H':List Obj} {fs:List FP} {a:Act},(∀ i∈l,∃ h:i < ops.size,∃ k,rl.getD i (0,default)=(k,qO P js ops ops[i] (aB P ops ops[i])))->FR lo (fo P F) E.aF c ⟨t,H⟩ a->base<=c.H.length->
  gA E.aF (m6 E.fns ex) b0 (l.map fun i=>rl.getD i (0,default)) t H=some (t',H',fs)->
  (∀ d a',FR lo (fo P F) E.aF d ⟨t',H'⟩ a'->cK base c d->wpOpsIn (wd ρ) 0 P ops Q l2 a' d.w)->wpOpsIn (wd ρ) 0 P ops Q (l++l2) a c.w
 | [],c,t,t',H,H',fs,a,_,h,_,hr,hQ=>by
  simp only [List.map_nil,gA,za2,za4] at hr;obtain ⟨rfl,rfl,_⟩:=hr;exact hQ c a h (cK.refl _ _)
 | i::l,c,t,t',H,H',fs,a,hl,h,hbase,hr,hQ=>by
  obtain ⟨hi,k,aL⟩:=hl i (by simp);have hoi:ops[i]?=some ops[i]:=zam hi;simp only [za5,aL] at hr;simp only [zaM,wpOpsIn,hoi];generalize ops[i]=o at hr ⊢;have FV:(qO P js ops o (aB P ops o)).dst=o.dst:=(Ep (P:=P) ops o _).1.trans (PK (P:=P) ops o);have hgd:(qO P js ops o (aB P ops o)).guard=(aB P ops o).guard:=(Ep (P:=P) ops o _).2;have De:∀ pl x,evalOp E.aF eS (m6 E.fns ex) kY pl .bad t H=some x->False:=by
   intro pl x hx;simp [evalOp,RO.kind,evalW] at hx
  rw [gA] at hr;split at hr
  case h_2=>simp at hr
  rename_i v H1 f hact;split at hr
  case h_2=>simp at hr
  rename_i t1 H2 fs1 UB;simp only [za2,za4] at hr;obtain ⟨rfl,rfl,_⟩:=hr;rw [FV] at UB;unfold qN at hact;rw [hgd] at hact;split at hact
  ·rename_i hw;split at hact
   case isFalse=>simp at hact
   rename_i dg;split at hact
   case h_2=>simp at hact
   rename_i u H3 ek;simp only [za2,za4] at hact;obtain ⟨rfl,rfl,_⟩:=hact;rcases S5 (P:=P) ops o (aB P ops o) with hmk | ⟨f,args,hca,hmk⟩ | ⟨x,y,hca,hmk,⟨hal,aeO⟩,hfz⟩
   ·rw [hmk] at ek dg;have CW:evalOp E.aF eS (m6 E.fns ex) kY (b0+k) (aB P ops o).op t H=some (u,H3):=by
     have:∀ f args,(aB P ops o).op≠ .iD f args:=by
      intro f args e;rcases ox (P:=P) ops o with hop | hop
      ·rw [hop] at e;exact Kp o f args e
      ·rw [hop] at e;simp at e
     have abD:∀ sz b y z,(aB P ops o).op≠ .mo sz b y z:=by
      intro sz b y z e;rcases ox (P:=P) ops o with hop | hop
      ·rw [hop] at e;exact E6 o sz b y z e
      ·rw [hop] at e;simp at e
     have XA:∀ sz z len parts,(aB P ops o).op≠ .m8 sz z len parts:=by
      intro sz b y z e;rcases ox (P:=P) ops o with hop | hop
      ·rw [hop] at e;exact E7 o sz b y z e
      ·rw [hop] at e;simp at e
     exact G5 this abD XA ek
    rcases ox (P:=P) ops o with hop | hop
    ·rw [hop] at CW dg;rcases sX (P:=P) h.tr o hw with nG | ⟨hb,_⟩
     ·rw [if_pos nG];refine xP b7 fP (.inr rfl) h o (fun ha=> .inl (mI dg ha)) CW fun d a' hd aU=>?_
      refine j9 b7 fP ops rl l2 l (fun j hj=>hl j (by simp [hj])) hd (zaI hbase (aU.len (za7 _))) UB fun d' FA hd' jJ=>hQ d' FA hd' ?_
      exact cK.trans ⟨aU.size,aU.keep,fun x v hx=>aU.vals x v (fe hbase x hx),aU.owned,fun hn=>zaI hn (aU.len (za7 _)),aU.same,aU.jL⟩ jJ
     ·rw [<-hop,hb] at CW;exact (De _ _ CW).elim
    ·rw [hop] at CW;exact (De _ _ CW).elim
   ·rw [hmk] at ek dg;have hop:cj P o= .call f args:=by
     rcases ox (P:=P) ops o with hop | hop
     ·rw [<-hop];exact hca
     ·rw [hop] at hca;simp at hca
    rcases sX (P:=P) h.tr o hw with nG | ⟨hb,_⟩
    ·rw [if_pos nG];refine G4 b7 fP h o hop (.inl (mI dg rfl)) ek fun d a' hd aU=>?_
     refine j9 b7 fP ops rl l2 l (fun j hj=>hl j (by simp [hj])) hd (zaI hbase (aU.len (za7 _))) UB fun d' FA hd' jJ=>hQ d' FA hd' ?_
     exact cK.trans ⟨aU.size,aU.keep,fun x v hx=>aU.vals x v (fe hbase x hx),aU.owned,fun hn=>zaI hn (aU.len (za7 _)),aU.same,aU.jL⟩ jJ
    ·rw [hb] at hca;simp at hca
   ·rw [hmk] at ek dg;have hop:cj P o=x:=by
     rcases ox (P:=P) ops o with hop | hop
     ·rw [<-hop];exact hca
     ·rw [hop] at hca;subst hca;simp [RO.dP] at hal
    obtain ⟨w,hfw⟩:=hfz E.aF (m6 E.fns ex) (b0+k) t H;rw [hfw] at ek
    cases oZ:evalOp E.aF eS (m6 E.fns ex) kY (b0+k) x t H with
    | none=>rw [oZ] at ek;simp [eL] at ek
    | some q=>
    obtain ⟨v1,Ha⟩:=q;rw [oZ] at ek;unfold eL at ek;dsimp only at ek;split at ek
    case isFalse=>simp at ek
    split at ek
    case h_2=>simp at ek
    rename_i r Hb hf;simp only [za2,za4] at ek;obtain ⟨rfl,rfl⟩:=ek;have CW:evalOp E.aF eS (m6 E.fns ex) kY (b0+k) (cj P o) t H=some (v1,Ha):=by rw [hop];exact oZ
    rcases sX (P:=P) h.tr o hw with nG | ⟨hb,_⟩
    ·rw [if_pos nG];refine xP b7 fP (.inr rfl) h o (fun ha=> .inl (mI dg aeO)) CW fun d a' hd aU=>?_
     obtain ⟨d2,g1,g2,g3⟩:=S4 b7.aF hd hf;rw [<-g1];refine j9 b7 fP ops rl l2 l (fun j hj=>hl j (by simp [hj])) g2 ((g3 base).len (zaI hbase (aU.len (za7 _)))) UB fun d' FA hd' jJ=>hQ d' FA hd' ?_
     exact cK.trans ⟨aU.size,aU.keep,fun x v hx=>aU.vals x v (fe hbase x hx),aU.owned,fun hn=>zaI hn (aU.len (za7 _)),aU.same,aU.jL⟩ ((g3 base).trans jJ)
    ·rw [hb] at hca;rw [<-hca] at hal;simp [RO.dP] at hal
  ·rename_i hw;simp only [za2,za4] at hact;obtain ⟨rfl,rfl,_⟩:=hact;have nG:Region.wanted o (yielded ops a.tmps)=false:=by
    rcases sX (P:=P) h.tr o hw with e | ⟨_,e⟩
    ·exact e
    ·rw [e] at hw;simp [want] at hw
   rw [if_neg (by simp [nG])];refine ⟨fun _ _=>trivial,?_⟩;exact j9 b7 fP ops rl l2 l (fun j hj=>hl j (by simp [hj])) ⟨h.sr,h.tr.put o.dst (B8 c),h.hH,by rw [eA];exact h.df,h.gl⟩ hbase UB hQ
  ·simp at hact
end
end Go.Am
end
section
namespace Go.Am
open Go.MapKept
section
variable {P:Program} {E:Env} {ex:EX}
theorem GB {F:Fo} {c:Ctx} (h:SR F c) (o:Go.Obj) (hn:∀ cells elem q,o≠Go.Obj.cells cells elem q):dR F c { c with w:=c.w.alloc o }:=by
 have hk:∀ b:Nat,b < c.w.heap.size->(c.w.alloc o).heap[b]?=c.w.heap[b]?:=(heap_alloc c.w o).2;have hlt:∀ b,(c.w.heap[b]?).isSome->b < c.w.heap.size:=by
  intro b hs;rcases zak b c.w.heap.size with e | e
  ·exact e
  ·rw [zan e] at hs;simp at hs
 have hV:∀ x v,V c x v->V { c with w:=c.w.alloc o } x v:=fun x v hx=>
  V.mono (c:=c) (d:={ c with w:=c.w.alloc o }) (fun b hb hs=>⟨hk b (hlt b hs),hb⟩) (fun _ _ _ _ _ h=>h) (fun _ _ _ _ _ h=>h) (fun _ _ _ _ _ _ h=>h) (fun _ _ h=>h) hx
 have hsz:c.w.heap.size<=(c.w.alloc o).heap.size:=by rw [World.size_alloc];omega
 refine ⟨⟨⟨?_,h.hr.inj⟩,h.hO,fun b hf=>zb9 (h.hF b hf) hsz,h.eF,h.x.keep (fun id o' h1 h2=>⟨h1,rfl,hk _ (h.o8 h1 h2).1⟩) hV⟩,hV,
  fun n=>⟨hsz,fun b hb _ _=>hk b hb,fun x v _ hx=>hV x v hx,fun b ho=> .inl ho,fun hn=>hn,xW _ _ hn,fun b hb=> .inl hb⟩⟩
 intro id nl sz es h1 h2;obtain ⟨cells,elem,g1,g2,g3,g4,g5⟩:=h.hr.back id nl sz es h1 h2;refine ⟨cells,elem,(hk _ (hlt _ (by rw [g1];rfl))).trans g1,g2,g3,g4,fun i hi=>⟨(g5 i hi).1,fun j hj=>?_⟩⟩;obtain ⟨u,hu,hv⟩:=(g5 i hi).2 j hj;exact ⟨u,hu,hV _ _ hv⟩
theorem GC {F:Fo} {c:Ctx} (h:SR F c) {id:Nat} {o:Obj} (hid:c.H[id]?=some o) (ho:o.sp=true) (wo:Go.Obj) (hn:∀ cells elem q,wo≠Go.Obj.cells cells elem q):
 ∃ d:Ctx,d.w=c.w.putObj (c.ι id) wo/\d.H=c.H.set id .dead/\dR F c d:=by
 obtain ⟨w0,g1,g2⟩:=h.x.xr id o hid ho;have b8:=bn hid;let H':=c.H.set id .dead;have aL:∀ (j:Nat) (o':Obj),o'≠ .dead->H'[j]?=some o'->j≠id/\c.H[j]?=some o':=by
  intro j o' hd hs;by_cases hj:j=id
  ·subst hj;simp [H',b8] at hs;exact (hd hs.symm).elim
  ·refine ⟨hj,?_⟩;rw [<-hs];simp only [H'];rw [za6 (fun q=>hj q.symm)]
 have hown:∀ b,bz H' c.ι b->bz c.H c.ι b:=by
  rintro b ⟨j,nl,sz,es,q1,q2,q3⟩;exact ⟨j,nl,sz,es,(aL _ _ (by simp) q1).2,q2,q3⟩
 have hB:¬ bz c.H c.ι (c.ι id):=(h.o8 hid ho).2;let d:Ctx:=⟨c.w.putObj (c.ι id) wo,fun b=>F b\/bz H' c.ι b,c.ι,c.K,H'⟩;have hk:∀ b,b≠c.ι id->d.w.heap[b]?=c.w.heap[b]?:=fun b hb=>World.putObj_heap_other hb
 have bY:∀ i,Has c i->Has d i:=by
  rintro i ⟨h1,h2⟩;refine ⟨by simpa [d,H'] using h1,fun e=>?_⟩;exact h2 (aL _ _ (by simp) e).2
 have hsp:∀ j o',d.H[j]?=some o'->o'.sp=true->c.H[j]?=some o'/\d.ι j=c.ι j/\d.w.heap[c.ι j]?=c.w.heap[c.ι j]?:=by
  intro j o' h1 h2;obtain ⟨h3,h4⟩:=aL j o' (by rintro rfl;simp [Obj.sp] at h2) h1;exact ⟨h4,rfl,hk _ fun e=>h3 (h.x.xi j id o' o h4 h2 hid ho e)⟩
 have hV:∀ x v,V c x v->V d x v:=by
  intro x v hx;refine V.HB ?_ ?_ ?_ ?_ (fun i b hs=>hs.keep bY hsp) hx
  ·intro b p u hb hc;have hne:b≠c.ι id:=by
    rintro rfl;unfold World.cell? at hc;rw [g1] at hc
    cases w0 with
    | cells c1 e1 q1=>exact g2.ri _ _ _ rfl
    | _=>simp at hc
   refine ⟨by rw [<-hc];simp only [World.cell?,hk b hne],?_⟩;rintro (hf | ho')
   ·exact hb ((h.hO b).2 (.inl hf))
   ·exact hb ((h.hO b).2 (.inr (hown b ho')))
  ·rintro i e p l v ⟨q1,q2,q3⟩;exact ⟨bY i q1,q2,fun nl sz es hs=>q3 nl sz es (aL _ _ (by simp) hs).2⟩
  ·rintro i e p l v ⟨q1,q,q2,q3,q4⟩;exact ⟨bY i q1,q,q2,q3,fun nl sz es hs=>q4 nl sz es (aL _ _ (by simp) hs).2⟩
  ·rintro i e p l k v ⟨q1,q,q2,q3,q4⟩;exact ⟨bY i q1,q,q2,q3,fun nl sz es hs=>q4 nl sz es (aL _ _ (by simp) hs).2⟩
 have hsz:d.w.heap.size=c.w.heap.size:=World.putObj_size;refine ⟨d,rfl,rfl,⟨⟨?_,?_⟩,fun b=>Iff.rfl,fun b hf=>by rw [hsz];exact h.hF b hf,fun b hb=>h.eF b (hown b hb),h.x.keep hsp hV⟩,hV,
  fun n=>⟨by rw [hsz];exact za7 _,fun b _ _ hs=>hk b fun e=>hs ⟨id,o,hid,ho,e.symm⟩,fun x v _ hx=>hV x v hx,fun b hb=> .inl (hown b hb),fun hn=>by simpa [d,H'] using hn,Di g1 rfl g2.ri hn,fun b hb=> .inl (cD hsp hb)⟩⟩
 ·intro i nl sz es hs hbk;have hs':=(aL _ _ (by simp) hs).2;obtain ⟨cells,elem,q1,q2,q3,q4,q5⟩:=h.hr.back i nl sz es hs' hbk;have hne:c.ι i≠c.ι id:=fun e=>hB (by rw [<-e];exact ⟨i,nl,sz,es,hs',hbk,rfl⟩)
  refine ⟨cells,elem,(hk _ hne).trans q1,q2,q3,.inr ⟨i,nl,sz,es,hs,hbk,rfl⟩,fun q hq=>⟨(q5 q hq).1,fun j hj=>?_⟩⟩;obtain ⟨u,hu,hv⟩:=(q5 q hq).2 j hj;exact ⟨u,hu,hV _ _ hv⟩
 ·intro i i' _ _ _ _ _ _ h1 h2 h3 h4 he hlt;exact h.hr.inj i i' _ _ _ _ _ _ (aL _ _ (by simp) h1).2 h2 (aL _ _ (by simp) h3).2 h4 he hlt
theorem JS (b7:iH P E) (fP:∀ hs code,AQ P E ex (comp P hs code) code) {hs:List (Nat×Hint)} {g:Operand} {ps:Array Tmp} {b6 body:Code} (hna:nj b6=true) (hnb:nj body=true)
 {lo:Nat->Prop} {F:Nat->Prop} {c:Ctx} {base:Nat} {s:St} {a:Act} (hfr:FR lo (fo P F) E.aF c s a) (hb:base<=c.H.length) {f:Nat} {cap:List AV}
 (hg:(cx g).ev E.aF s.tmps= .fn f cap) {u:AV} {H':List Obj} (hr:AR E.fns ex (some f) (.fA s.H.length::cap) (s.H++[.lp .ready s.tmps ps.toList (comp P hs b6) (comp P hs body)])=some (u,H'))
 {e:Ex} (he:lg H' s.H.length=some e) {Q:Exit->Act->World->Prop}
 (hQ:∀ d a',FR lo (fo P F) E.aF d ⟨s.tmps,H'.set s.H.length .dead⟩ a'->cK base c d->Q (sM e) a' d.w):(Code.rangeFunc g ps b6 body).wpIn (wd none) 0 P Q a c.w:=by
 have hH:=hfr.hH;have hent:∀ args w,(callFunc f args).run P w= .ok (.enter f args) w:=by
  have:∃ rf,E.fns f=some rf:=by
   unfold AR at hr;dsimp only at hr;split at hr
   ·rename_i rf qA;exact ⟨rf,qA⟩
   ·simp at hr
  obtain ⟨rf,qA⟩:=this;obtain ⟨fn,hs,hf,hc⟩:=b7.fns f rf qA;obtain ⟨code,hb,hn,_⟩:=j5 hc;exact fun args w=>td hf hn hb args w
 have hgv:=vL hfr.tr hfr.gl g;rw [hg] at hgv;generalize aac:a.eval g=gv at hgv
 cases hgv with
 | fn _ _ vs hvs hcv=>
 refine wpIn_rangeFunc ?_;intro fn hfn;have w1:=GB hfr.sr (.deferred (some [])) (by simp);have hD0:(c.w.alloc (.deferred (some []))).heap[c.w.heap.size]?=some (.deferred (some [])):=(heap_alloc c.w _).1;have abP:(c.w.alloc (.deferred (some []))).heap.size=c.w.heap.size+1:=World.size_alloc ..;obtain ⟨d1,m1,m2,m3,m4,m5⟩:=LF w1.1 (pl:=c.H.length) (.inr rfl) (.lp .ready s.tmps ps.toList (comp P hs b6) (comp P hs body)) rfl
  (.loop { state:= .ready,pending:=none,fn,tmps:=a.tmps,params:=ps,assign:=b6,body,defers:=c.w.heap.size }) (by simp)
  (fun d hv=>⟨_,rfl,(hfr.tr.hY w1.2.1).hY hv,rfl,⟨hs,rfl,hna⟩,⟨hs,rfl,hnb⟩,rfl,rfl⟩)
 have UU:dR (fo P F) c d1:=w1.trans m3;have Hj:d1.H=s.H++[.lp .ready s.tmps ps.toList (comp P hs b6) (comp P hs body)]:=by
  rw [m2];unfold putObj;rw [if_neg (zc0 _)];rw [show ({ c with w:=c.w.alloc (.deferred (some [])) }:Ctx).H=s.H from hH]
 have HC:d1.H.length=s.H.length+1:=by rw [Hj];simp
 have dg:c.H.length=s.H.length:=by rw [hH]
 rw [dg] at m4 m5;have FB:({ c with w:=c.w.alloc (.deferred (some [])) }:Ctx).w.heap.size=c.w.heap.size+1:=abP;rw [FB] at m4 m5;rw [<-Hj] at hr;have hD1:d1.w.heap[c.w.heap.size]?=some (.deferred (some [])):=by
  rw [m1];exact ((heap_alloc _ _).2 _ (by rw [FB];omega)).trans hD0
 have aad:d1.w.heap.size=c.w.heap.size+2:=by rw [m1,World.size_alloc,FB]
 refine ⟨c.w.heap.size+1,[{ target:= .collected c.w.heap.size,args:=#[] }],d1.w,{ target:= .fn (.func f) vs,args:=#[.func (.yield (c.w.heap.size+1)) #[] #[]] },d1.w,f,
  #[.func (.yield (c.w.heap.size+1)) #[] #[]]++vs,d1.w,?_,?_,fun _ _=>trivial,?_,fun h=>by simp [wd,Fence.wide] at h,?_⟩
 ·rw [m1];exact run_enterLoop_outer _ _ _ _ _
 ·simp only [resolve,aac];simp [go_sem]
 ·simp [invoke,go_sem,hent]
 have o9:=wP b7 fP (c:=d1) (vs:=(.func (.yield (c.w.heap.size+1)) #[] #[])::vs.toList) hr m3.1 (hfr.gl.oQ b7.aF (UU.2.2 0)) (by simp [hvs]) (fun i hi hj=>by
  cases i with
  | zero=>exact .fA _ _ m4
  | succ i=>exact UU.2.1 _ _ (hcv i (by simpa using hi) (by simpa using hj)))
 have m7:((Value.func (.yield (c.w.heap.size+1)) #[] #[])::vs.toList).toArray=#[.func (.yield (c.w.heap.size+1)) #[] #[]]++vs:=by apply zbp;simp
 rw [m7] at o9;refine (wQ (ρ:=none) (n:=0) o9).mono ?_;rintro ev w2 ⟨v,d,rfl,rfl,h1,h2,h3,_⟩;obtain ⟨t',ps',Zf,body',st,hid,hst⟩:∃ t' ps' Zf body' st,d.H[s.H.length]?=some (.lp st t' ps' Zf body')/\(st= .ready/\e= .normal\/st= .done e):=by
  rw [h1];unfold lg at he;split at he
  ·rename_i hq;injection he with he;exact ⟨_,_,_,_,_,hq,.inl ⟨rfl,he.symm⟩⟩
  ·rename_i hq;injection he with he;subst he;exact ⟨_,_,_,_,_,hq,.inr rfl⟩
  ·simp at he
 have hbd:c.w.heap.size+1=d.ι s.H.length:=h3.wR (by rw [HC];omega) m4 hid rfl;obtain ⟨wo,g1,r,rfl,_,_,_,_,g6⟩:=h2.x.xr _ _ hid rfl;rw [<-hbd] at g1;have hnb:r.state≠ .busy:=by
  rcases hst with ⟨rfl,_⟩ | rfl
  ·intro q;have:=g6.1;rw [this] at q;cases q
  ·intro q;have:=g6.1;rw [this] at q;cases q
 obtain ⟨d2,n1,n2,n3⟩:=GC h2 hid rfl (.loop { r with state:= .exhausted }) (by simp);rw [<-hbd] at n1;have XV:cK c.H.length c d1:=UU.2.2 _;have hf2:cK c.H.length d1 d2:=cK.trans ⟨h3.size,h3.keep,fun x v hx=>h3.vals x v (fe (by rw [HC,dg];omega) x hx),h3.owned,fun _=>by have:=h3.len (za7 _);omega,h3.same,h3.jL⟩ (n3.2.2 _);have aU:cK c.H.length c d2:=XV.trans hf2;have LG:cK base c d2:=⟨aU.size,aU.keep,fun x v hx=>aU.vals x v (fe hb x hx),aU.owned,fun _=>zaI hb (aU.len (za7 _)),aU.same,aU.jL⟩;have hDd:d2.w.heap[c.w.heap.size]?=some (.deferred (some [])):=by
  rw [hf2.keep _ (by rw [aad];omega) ?_ ?_,hD1]
  ·rintro ⟨id,nl,sz,es,q1,q2,q3⟩;obtain ⟨cells,elem,q4,_⟩:=m3.1.hr.back id nl sz es q1 q2;rw [q3,hD1] at q4;simp at q4
  ·rintro ⟨id,o,q1,q2,q3⟩;obtain ⟨wo,q4,q5⟩:=m3.1.x.xr id o q1 q2;rw [q3,hD1] at q4;injection q4 with q4
   exact q5.HD _ q4.symm
 have FC:FR lo (fo P F) E.aF d2 ⟨s.tmps,H'.set s.H.length .dead⟩ { a with defers:=[{ target:= .collected c.w.heap.size,args:=#[] }]++a.defers }:=by
  refine ⟨n3.1,⟨hfr.tr.1,fun i hi hj=>aU.vals _ _ ((hfr.tr.2 i hi hj).bD) (hfr.tr.2 i hi hj)⟩,by rw [n2,h1],?_,hfr.gl.oQ b7.aF aU⟩;obtain ⟨hlo,Ds,k1,k2,k3⟩:=hfr.df;obtain ⟨abQ,Ds5,_,_,_⟩:=hfr.df.oQ hfr.sr aU;refine ⟨abQ,c.w.heap.size::Ds,?_,?_,?_⟩
  ·rw [zbF];refine ⟨fun h=>?_,k1⟩;have:=(k3 _ h).2;rw [zan (za7 _)] at this;simp at this
  ·rw [za5,<-k2];rfl
  ·intro D' Ur;rcases zad.1 Ur with rfl | Ur
   ·exact ⟨hlo _ (za7 _),hDd⟩
   ·have h3:=(k3 D' Ur).2;have hlt:D' < c.w.heap.size:=(zaX.1 h3).1;refine ⟨(k3 D' Ur).1,(aU.keep D' hlt ?_ ?_).trans h3⟩
    ·rintro ⟨id,nl,sz,es,q1,q2,q3⟩;obtain ⟨cells,elem,q4,_⟩:=hfr.sr.hr.back id nl sz es q1 q2;rw [q3,h3] at q4;simp at q4
    ·rintro ⟨id,o,q1,q2,q3⟩;obtain ⟨wo,q4,q5⟩:=hfr.sr.x.xr id o q1 q2;rw [q3,h3] at q4;injection q4 with q4
     exact q5.HD _ q4.symm
 refine ⟨r.pending,_,run_endLoop (P:=P) g1 hnb,?_⟩;rw [<-n1];rcases hst with ⟨rfl,rfl⟩ | rfl
 ·rw [g6.2];exact hQ d2 _ FC LG
 ·rw [g6.2.1]
  cases e with
  | normal=>exact (g6.2.2 rfl).elim
  | ret=>exact wpIn_ret (hQ d2 _ FC LG)
  | exit i=>exact wpIn_exit (hQ d2 _ FC LG)
end
end Go.Am
end
