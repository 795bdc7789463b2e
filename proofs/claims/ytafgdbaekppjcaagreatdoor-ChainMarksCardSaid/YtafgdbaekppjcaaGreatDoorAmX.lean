/- Parts of my machine and its laws, joined: AmX AmXa. No condition. -/
import Derived.Test.YtafgdbaekppjcaaGreatDoorAmW
set_option linter.unusedSectionVars false
set_option linter.unusedVariables false
set_option linter.unusedSimpArgs false
section
namespace Go.Am
section
variable {P:Program} {E:Env}
theorem TR.put {c:Ctx} {t:List AV} {a:Act} (h:TR c t a.tmps) (d:Option Nat) {x:AV} {v:Value} (hx:V c x v):TR c (cO t d x) (a.put d v).tmps:=by
 cases d with
 | none=>exact h
 | some d=>
  refine ⟨by simp [cO,Act.put,h.1],fun i hi hj=>?_⟩;have hi':i < t.length:=by simpa [cO] using hi
  have hj':i < a.tmps.size:=by simpa [Act.put] using hj
  by_cases hd:d=i
  ·subst hd;have e1:(cO t (some d) x)[d]'hi=x:=by simp [cO]
   have e2:(a.put (some d) v).tmps[d]'hj=v:=by simp [Act.put]
   rw [e1,e2];exact hx
  ·have e1:(cO t (some d) x)[i]'hi=t[i]:=by simp only [cO];rw [List.getElem_set_ne hd]
   have e2:(a.put (some d) v).tmps[i]'hj=a.tmps[i]:=by simp only [Act.put];rw [Array.getElem_setIfInBounds_ne hj' hd]
   rw [e1,e2];exact h.2 i hi' hj'
theorem ek (a:Act) (d:Option Nat) (v:Value):(a.put d v).defers=a.defers:=by cases d<;>rfl
theorem zM (c:Ctx):V c (.bk []) undef:= .bk [] #[] rfl fun i hi=>by simp at hi
theorem rj {c:Ctx} {ops:Array Oper} {t:List AV} {a:Act} (ht:TR c t a.tmps) (o:Oper) {b:Bool} (h:want t (aF P ops o).guard=some b):
 Region.wanted o (yielded ops a.tmps)=b\/((aF P ops o).op= .bad/\(aF P ops o).guard=none):=by
 unfold aF at h ⊢
 cases hg:o.guard with
 | none=>simp only [hg,want] at h;injection h with h;left;simp [Region.wanted,hg,h]
 | some g=>
  obtain ⟨j,q⟩:=g;simp only [hg] at h ⊢
  cases hd:ug ops j with
  | none=>right;exact ⟨rfl,rfl⟩
  | some d=>
   left;simp only [hd,want] at h;have C1:(ops[j]?).bind (·.dst)=some d:=by
    unfold ug at hd;split at hd
    ·rename_i o' ho';rw [ho'];exact hd
    ·simp at hd
   split at h
   ·rename_i b' hb';injection h with h
    obtain ⟨hi,he⟩:=getD_some hb' (by simp);have hi':d < a.tmps.size:=by rw [ht.1];exact hi
    have hv:=ht.2 d hi hi';rw [he] at hv;have:a.tmps[d]= .bool b':=by
     generalize a.tmps[d]=u at hv ⊢
     cases hv;rfl
    simp only [Region.wanted,hg,yielded,C1,Option.bind_some,Array.getElem?_eq_getElem hi',this];rw [<-h]
    cases b'<;>cases q<;>rfl
   ·rename_i hb';injection h with h
    obtain ⟨hi,he⟩:=getD_some hb' (by simp);have hi':d < a.tmps.size:=by rw [ht.1];exact hi
    have hv:=ht.2 d hi hi';rw [he] at hv;have:a.tmps[d]= .tuple #[]:=by
     generalize a.tmps[d]=u at hv ⊢
     cases hv with
     | bk _ vs hs _=>
      have:vs=#[]:=by simpa using hs
      rw [this]
    simp only [Region.wanted,hg,yielded,C1,Option.bind_some,Array.getElem?_eq_getElem hi',this];rw [<-h];rfl
   ·simp at h
theorem r5 (o:Oper):(∀ f args,cq P o= .call f args->∃ c,o.op= .call c/\c.callee= .value (.func f)/\args=c.args.toList.map cx)/\
 (∀ x args,cq P o= .fJ x args->∃ c y,o.op= .call c/\c.callee= .value y/\x=cx y/\args=c.args.toList.map cx):=by
 unfold cq
 cases hop:o.op with
 | call cl=>
  simp only;constructor
  ·intro f args h;split at h
   ·rename_i f' hc;injection h with h1 h2
    exact ⟨cl,rfl,by rw [hc,h1],h2.symm⟩
   ·simp at h
   ·(repeat' split at h)<;>simp at h
   ·(repeat' split at h)<;>simp at h
   ·simp at h
   ·simp at h
   ·(repeat' split at h)<;>simp at h
   ·simp at h
  ·intro x args h;split at h
   ·simp at h
   ·rename_i y _ hc;injection h with h1 h2
    exact ⟨cl,y,rfl,hc,h1.symm,h2.symm⟩
   ·(repeat' split at h)<;>simp at h
   ·(repeat' split at h)<;>simp at h
   ·simp at h
   ·simp at h
   ·(repeat' split at h)<;>simp at h
   ·simp at h
 | binOp op ty x y yt=>
  simp only;constructor
  ·intro f args h;split at h
   ·unfold eM at h;(repeat' split at h)<;>simp at h
   ·unfold eM at h;(repeat' split at h)<;>simp at h
   ·simp at h
  ·intro f args h;split at h
   ·unfold eM at h;(repeat' split at h)<;>simp at h
   ·unfold eM at h;(repeat' split at h)<;>simp at h
   ·simp at h
 | makeFunc fn first cap=>cases fn<;>simp only<;>constructor<;>intro f args h<;>(repeat' split at h)<;>simp at h
 | slice ty x lo hi mx=>cases mx<;>simp only<;>constructor<;>intro f args h<;>(repeat' split at h)<;>simp at h
 | makeMap ty r=>cases r<;>simp only<;>constructor<;>intro f args h<;>simp at h
 | next x b=>cases b<;>simp only<;>constructor<;>intro f args h<;>simp at h
 | _=>simp only;constructor<;>intro f args h<;>(repeat' split at h)<;>simp at h
theorem ry {f:Nat} {fn:Func} (hf:P.funcs[f]?=some fn) (hn:(fn.name== "runtime.NumGoroutine")=false) {code:Code} (hb:fn.body=some code) (args:Array Value) (w:World):
 (callFunc f args).run P w= .ok (.enter f args) w:=by
 have hn':¬ fn.name= "runtime.NumGoroutine" :=by simpa using hn
 unfold callFunc;simp [hf,hn',hb]
variable {ex:EX}
theorem KY {G:Nat->List AV} {t:List AV} {H:List Obj} {x:RO} (h:x.dA=false) (p q:Nat):evalW G t H p x=evalW G t H q x:=by
 cases x<;>first | rfl | (simp [RO.dA] at h)
theorem vm (ck:gU P E) (fu:∀ hs code,yx P E ex (comp P hs code) code) {hp:Nat->Bool} {cH:CH} (LA:cH=yy E.fns ex\/cH=j6) {ρ:Option Nat} {lo:Nat->Prop} {F:Nat->Prop} {c:Ctx} {t:List AV} {H:List Obj} {a:Act}
 (h:FR lo (fo P F) E.aI c ⟨t,H⟩ a) (o:Oper) {v:AV} {H':List Obj} {pl:Nat} (cZ:(cq P o).dA=true->Room H pl) (dP:evalOp E.aI hp (lO E.fns ex) cH pl (cq P o) t H=some (v,H'))
 {next:Act->World->Prop} {Q:Exit->Act->World->Prop} (hnext:∀ d u,FR lo (fo P F) E.aI d ⟨cO t o.dst v,H'⟩ (a.put o.dst u)->cM c.H.length c d->next (a.put o.dst u) d.w):
 o.wpIn (wd ρ) 0 P a c.w next Q:=by
 have CC:∀ q,o.op≠ .defer q:=by
  intro q hq;have:cq P o= .bad:=by unfold cq;rw [hq]
  rw [this] at dP;simp [evalOp,RO.kind,evalW] at dP
 refine ⟨fun _ _=>trivial,?_⟩;rw [Oper.semAt_eq _ _ _ CC];have hH:c.H=H:=h.hH;unfold evalOp at dP
 cases hk:(cq P o).kind with
 | pure=>
  rw [hk] at dP;simp only at dP;split at dP
  case h_2=>simp at dP
  rename_i u hu;simp only [Option.some.injEq,Prod.mk.injEq] at dP;obtain ⟨rfl,rfl⟩:=dP;obtain ⟨v',e1,e2⟩:=Ba (P:=P) h.sr.hr h.tr h.gl o (.inl hu);rw [e1];exact hnext c _ ⟨h.sr,h.tr.put o.dst e2,hH,by rw [ek];exact h.df,h.gl⟩ (cM.refl _ _)
 | read=>
  rw [hk] at dP;simp only at dP;split at dP
  case h_2=>simp at dP
  rename_i u hu;simp only [Option.some.injEq,Prod.mk.injEq] at dP;obtain ⟨rfl,rfl⟩:=dP;rw [<-hH] at hu;obtain ⟨v',e1,e2⟩:=Ba (P:=P) h.sr.hr h.tr h.gl o (.inr hu);rw [e1];exact hnext c _ ⟨h.sr,h.tr.put o.dst e2,hH,by rw [ek];exact h.df,h.gl⟩ (cM.refl _ _)
 | write=>
  rw [hk] at dP;simp only at dP;have aeU:∃ q,Room H q/\evalW E.aI t H q (cq P o)=some (v,H'):=by
   cases ha:(cq P o).dA with
   | true=>exact ⟨pl,cZ ha,dP⟩
   | false=>exact ⟨H.length,.inr rfl,by rw [KY ha H.length pl];exact dP⟩
  obtain ⟨q,hq,dP⟩:=aeU;rw [<-hH] at dP hq;obtain ⟨d,d1,d2,d3⟩:=KK (P:=P) h.sr h.tr h.gl o hq dP;have Ah:gy d E.aI:=h.gl.nI ck.aI (d2.2.2 0);rcases d3 with ⟨v',e1,e2⟩ | ⟨e1,rfl⟩
  ·rw [e1];exact hnext d _ ⟨d2.1,(h.tr.gD d2.2.1).put o.dst e2,d1,by rw [ek];exact h.df.nI h.sr (d2.2.2 0),Ah⟩ (d2.2.2 _)
  ·rw [e1];exact hnext d _ ⟨d2.1,(h.tr.gD d2.2.1).put o.dst (zM d),d1,by rw [ek];exact h.df.nI h.sr (d2.2.2 0),Ah⟩ (d2.2.2 _)
 | call=>
  rw [hk] at dP;simp only at dP;have fin:∀ (f:Nat) (xs:List AV) (vs:List Value) (args:Array Value),args=vs.toArray->bI hp (lO E.fns ex) cH f xs H=some (v,H')->vs.length=xs.length->
   (∀ i (hi:i < xs.length) (hj:i < vs.length),V c xs[i] vs[i])->(execOp a.eval o).run P c.w=(callFunc f args).run P c.w->o.uponIn (wd ρ) 0 P a next Q ((execOp a.eval o).run P c.w):=by
   intro f xs vs args hargs hd hl hv hrun;subst hargs;rw [<-hH] at hd;have xb:=DI ck fu LA hd h.sr h.gl hl hv;have hent:∃ fn code,P.funcs[f]?=some fn/\(fn.name== "runtime.NumGoroutine")=false/\fn.body=some code:=by
    have:∃ rf,E.fns f=some rf:=by
     unfold bI at hd;have hh:∀ r,cH (some f) xs c.H=some r->∃ rf,E.fns f=some rf:=by
      intro r hr;rcases LA with rfl | rfl
      ·unfold yy at hr;dsimp only at hr;split at hr
       ·rename_i rf qG;exact ⟨rf,qG⟩
       ·simp at hr
      ·simp [j6] at hr
     split at hd
     ·exact hh _ hd
     ·split at hd
      ·split at hd
       ·rename_i r hr;unfold lO at hr;split at hr
        ·rename_i rf qG;exact ⟨rf,qG⟩
        ·simp at hr
       ·simp at hd
      ·exact hh _ hd
    obtain ⟨rf,qG⟩:=this;obtain ⟨fn,hs,hf,hc⟩:=ck.fns f rf qG;obtain ⟨code,hb,hn,_⟩:=jq hc;exact ⟨fn,code,hf,hn,hb⟩
   obtain ⟨fn,code,hf,hn,hb⟩:=hent;rw [hrun,ry hf hn hb];refine ⟨fun h=>by simp [wd,Fence.wide] at h,uE (xb.mono ?_)⟩;rintro e w' ⟨u,d,rfl,rfl,d1,d2,d3,d4⟩;refine hnext d _ ⟨d2,?_,d1,by rw [ek];exact h.df.nI h.sr d3,h.gl.nI ck.aI d3⟩ d3;refine TR.put ⟨h.tr.1,fun i hi hj=>d3.vals _ _ ((h.tr.2 i hi hj).bA) (h.tr.2 i hi hj)⟩ o.dst d4
  split at dP
  ·rename_i f args hc;obtain ⟨cl,hop,kQ,rfl⟩:=(r5 (P:=P) o).1 f args hc;refine fin f _ (cl.args.toList.map a.eval) ((cl.args.map a.eval)++#[]) (by apply Array.ext';simp) dP (by simp) (qT h.tr h.gl cl.args.toList) ?_;simp only [execOp,hop,resolve,kQ,Act.eval,Deferred.ofValue];simp [invoke]
  ·rename_i x args hc;obtain ⟨cl,y,hop,kQ,rfl,rfl⟩:=(r5 (P:=P) o).2 x args hc;split at dP
   case h_4=>simp at dP
   case h_2=>
    rename_i f cap GX;have hy:=tO h.tr h.gl y;have Hz:(cx y).ev E.aI t= .bL f cap:=GX;rw [show (⟨t,H⟩:St).tmps=t from rfl,Hz] at hy;generalize PR:a.eval y=yv at hy
    cases hy with
    | bL _ _ cs hs hv=>
     refine fin f _ (cs.toList++cl.args.toList.map a.eval) ((cs++cl.args.map a.eval)++#[]) (by apply Array.ext';simp) dP (by simp [hs]) ?_ ?_
     ·intro i hi hj;have ha:=qT h.tr h.gl cl.args.toList;by_cases hlt:i < cap.length
      ·rw [List.getElem_append_left hlt,List.getElem_append_left (by simp;omega)];simpa using hv i hlt (by omega)
      ·have hcs:cs.toList.length=cap.length:=by simp [hs]
       rw [List.getElem_append_right (by omega),List.getElem_append_right (by omega)];simp only [hcs];exact ha _ _ _
     ·simp only [execOp,hop,resolve,kQ,PR,Deferred.ofValue];simp [invoke]
   case h_3=>
    rename_i l GX;have dP:cH none (.eI l::(cl.args.toList.map cx).map (·.ev E.aI t)) H=some (v,H'):=dP;rcases LA with rfl | rfl
    case inr=>simp [j6] at dP
    have hr:S7 ex (.eI l::(cl.args.toList.map cx).map (·.ev E.aI t)) c.H=some (v,H'):=by rw [hH];exact dP
    have hy:=tO h.tr h.gl y;have Hz:(cx y).ev E.aI t= .eI l:=GX;rw [show (⟨t,H⟩:St).tmps=t from rfl,Hz] at hy;generalize PR:a.eval y=yv at hy
    cases hy with
    | eI _ b hb=>
     have hvs:=qT h.tr h.gl cl.args.toList;obtain ⟨fn,tmps,b9,body,hrun,Sx⟩:=Gk ck fu h.sr h.gl hb (vs:=(cl.args.toList.map a.eval).toArray) (by simp) (fun i hi hj=>hvs i hi (by simpa using hj)) hr;have aeV:(execOp a.eval o).run P c.w= .ok (.round b fn tmps b9 body) c.w:=by
      rw [<-hrun];have:(cl.args.toList.map a.eval).toArray=cl.args.map a.eval:=by apply Array.ext';simp
      rw [this];simp only [execOp,hop,resolve,kQ,PR,Deferred.ofValue];simp [invoke]
     rw [aeV,Oper.uponIn_round];have NY:RoundIn (wd ρ) 0 P b fn tmps b9 body c.w _:=Sx;refine ⟨fun h=>by simp [wd,Fence.wide] at h,NY.mono ?_⟩;rintro e w' ⟨u,d,rfl,rfl,d1,d2,d3,d4⟩;refine hnext d _ ⟨d2,?_,d1,by rw [ek];exact h.df.nI h.sr d3,h.gl.nI ck.aI d3⟩ d3;exact TR.put ⟨h.tr.1,fun i hi hj=>d3.vals _ _ ((h.tr.2 i hi hj).bA) (h.tr.2 i hi hj)⟩ o.dst d4
   rename_i f cap GX;have hy:=tO h.tr h.gl y;have Hz:(cx y).ev E.aI t= .fn f cap:=GX;rw [show (⟨t,H⟩:St).tmps=t from rfl,Hz] at hy;generalize PR:a.eval y=yv at hy
   cases hy with
   | fn _ _ cs hs hv=>
    refine fin f _ (cl.args.toList.map a.eval++cs.toList) ((#[]++cl.args.map a.eval)++cs) (by apply Array.ext';simp) dP (by simp [hs]) ?_ ?_
    ·intro i hi hj;have ha:=qT h.tr h.gl cl.args.toList;by_cases hlt:i < cl.args.toList.length
     ·rw [List.getElem_append_left (by simpa using hlt),List.getElem_append_left (by simpa using hlt)];exact ha i (by simpa using hlt) (by simpa using hlt)
     ·rw [List.getElem_append_right (by simpa using hlt),List.getElem_append_right (by simpa using hlt)];simp only [List.length_map,Array.getElem_toList];exact hv _ _ _
    ·simp only [execOp,hop,resolve,kQ,PR,Deferred.ofValue];simp [invoke]
  ·simp at dP
theorem DN (ck:gU P E) (fu:∀ hs code,yx P E ex (comp P hs code) code) {ρ:Option Nat} {lo:Nat->Prop} {F:Nat->Prop} {c:Ctx} {t:List AV} {H:List Obj} {a:Act}
 (h:FR lo (fo P F) E.aI c ⟨t,H⟩ a) (o:Oper) {f:Nat} {args:List RX} (Yj:cq P o= .call f args) {v:AV} {H':List Obj} {pl:Nat} (cZ:Room H pl)
 (dP:mkObj (lO E.fns ex) f (args.map (·.ev E.aI t)) pl H=some (v,H'))
 {next:Act->World->Prop} {Q:Exit->Act->World->Prop} (hnext:∀ d u,FR lo (fo P F) E.aI d ⟨cO t o.dst v,H'⟩ (a.put o.dst u)->cM c.H.length c d->next (a.put o.dst u) d.w):
 o.wpIn (wd ρ) 0 P a c.w next Q:=by
 have CC:∀ q,o.op≠ .defer q:=by
  intro q hq;have:cq P o= .bad:=by unfold cq;rw [hq]
  rw [this] at Yj;simp at Yj
 refine ⟨fun _ _=>trivial,?_⟩;rw [Oper.semAt_eq _ _ _ CC];have hH:c.H=H:=h.hH;obtain ⟨cl,hop,kQ,rfl⟩:=(r5 (P:=P) o).1 f args Yj;rw [<-hH] at dP cZ;have hvs:=qT h.tr h.gl cl.args.toList;have xb:=KT ck fu dP cZ h.sr h.gl (vs:=cl.args.toList.map a.eval) (by simp) hvs;have hent:∃ fn code,P.funcs[f]?=some fn/\(fn.name== "runtime.NumGoroutine")=false/\fn.body=some code:=by
  have:∃ rf,E.fns f=some rf:=by
   unfold mkObj at dP;split at dP
   case h_2=>simp at dP
   split at dP
   case h_2=>simp at dP
   rename_i hr;unfold lO at hr;split at hr
   ·rename_i rf qG;exact ⟨rf,qG⟩
   ·simp at hr
  obtain ⟨rf,qG⟩:=this;obtain ⟨fn,hs,hf,hc⟩:=ck.fns f rf qG;obtain ⟨code,hb,hn,_⟩:=jq hc;exact ⟨fn,code,hf,hn,hb⟩
 obtain ⟨fn,code,hf,hn,hb⟩:=hent;have hrun:(execOp a.eval o).run P c.w=(callFunc f (cl.args.toList.map a.eval).toArray).run P c.w:=by
  have:(cl.args.toList.map a.eval).toArray=(cl.args.map a.eval)++#[]:=by apply Array.ext';simp
  rw [this];simp only [execOp,hop,resolve,kQ,Act.eval,Deferred.ofValue];simp [invoke]
 rw [hrun,ry hf hn hb];refine ⟨fun h=>by simp [wd,Fence.wide] at h,uE (xb.mono ?_)⟩;rintro e w' ⟨u,d,rfl,rfl,d1,d2,dV,d3,d4⟩;refine hnext d _ ⟨d2,?_,d1,by rw [ek];exact h.df.nI h.sr (d3 0),h.gl.nI ck.aI (d3 0)⟩ (d3 _);exact TR.put ⟨h.tr.1,fun i hi hj=>dV _ _ (h.tr.2 i hi hj)⟩ o.dst d4
theorem fO (ck:gU P E) (fu:∀ hs code,yx P E ex (comp P hs code) code) {hp:Nat->Bool} {cH:CH} (LA:cH=yy E.fns ex\/cH=j6) (ops:Array Oper) (rl:List bD) (l2:List Nat) {ρ:Option Nat} {lo:Nat->Prop} {F:Nat->Prop} {base:Nat} {Q:Exit->Act->World->Prop}:
 ∀ (l:List Nat) {c:Ctx} {t t':List AV} {H H':List Obj} {a:Act},(∀ i∈l,∃ h:i < ops.size,rl.getD i default=aF P ops ops[i])->FR lo (fo P F) E.aI c ⟨t,H⟩ a->base<=c.H.length->
  bP E.aI hp (lO E.fns ex) cH (l.map fun i=>rl.getD i default) t H=some (t',H')->
  (∀ d a',FR lo (fo P F) E.aI d ⟨t',H'⟩ a'->cM base c d->wpOpsIn (wd ρ) 0 P ops Q l2 a' d.w)->wpOpsIn (wd ρ) 0 P ops Q (l++l2) a c.w
 | [],c,t,t',H,H',a,_,h,_,hr,hQ=>by
  simp only [List.map_nil,bP,Option.some.injEq,Prod.mk.injEq] at hr;obtain ⟨rfl,rfl⟩:=hr;exact hQ c a h (cM.refl _ _)
 | i::l,c,t,t',H,H',a,hl,h,hbase,hr,hQ=>by
  obtain ⟨hi,aN⟩:=hl i (by simp);have Yk:ops[i]?=some ops[i]:=Array.getElem?_eq_getElem hi;simp only [List.map_cons,aN] at hr;simp only [List.cons_append,wpOpsIn,Yk];generalize ops[i]=o at hr ⊢;have C1:(aF P ops o).dst=o.dst:=by
   unfold aF
   cases hg:o.guard with
   | none=>rfl
   | some g=>obtain ⟨j,q⟩:=g;simp only;cases hd:ug ops j<;>rfl
  have hop:(aF P ops o).op=cq P o\/(aF P ops o).op= .bad:=by
   unfold aF
   cases hg:o.guard with
   | none=>left;rfl
   | some g=>
    obtain ⟨j,q⟩:=g;simp only
    cases hd:ug ops j with
    | none=>right;rfl
    | some d=>left;rfl
  have AN:∀ x,evalOp E.aI hp (lO E.fns ex) cH H.length .bad t H=some x->False:=by
   intro x hx;simp [evalOp,RO.kind,evalW] at hx
  rw [bP] at hr;split at hr
  ·rename_i hw;split at hr
   case h_2=>simp at hr
   rename_i v H1 dP;rcases hop with hop | hop
   ·rw [hop] at dP;rw [C1] at hr;rcases rj (P:=P) h.tr o hw with mz | ⟨hb,_⟩
    ·rw [if_pos mz];refine vm ck fu LA h o (fun _=> .inr rfl) dP fun d a' hd aT=>?_
     refine fO ck fu LA ops rl l2 l (fun j hj=>hl j (by simp [hj])) hd (Nat.le_trans hbase (aT.len (Nat.le_refl _))) hr fun d' CF hd' ja=>hQ d' CF hd' ?_
     exact cM.trans ⟨aT.size,aT.keep,fun x v hx=>aT.vals x v (eN hbase x hx),aT.owned,fun hn=>Nat.le_trans hn (aT.len (Nat.le_refl _)),aT.same,aT.jc⟩ ja
    ·rw [<-hop,hb] at dP;exact (AN _ dP).elim
   ·rw [hop] at dP;exact (AN _ dP).elim
  ·rename_i hw;rw [C1] at hr;have mz:Region.wanted o (yielded ops a.tmps)=false:=by
    rcases rj (P:=P) h.tr o hw with e | ⟨_,e⟩
    ·exact e
    ·rw [e] at hw;simp [want] at hw
   rw [if_neg (by simp [mz])];refine ⟨fun _ _=>trivial,?_⟩;exact fO ck fu LA ops rl l2 l (fun j hj=>hl j (by simp [hj])) ⟨h.sr,h.tr.put o.dst (zM c),h.hH,by rw [ek];exact h.df,h.gl⟩ hbase hr hQ
  ·simp at hr
theorem KZ (ops:Array Oper) (o:Oper):(aF P ops o).dst=o.dst:=by
 unfold aF
 cases hg:o.guard with
 | none=>rfl
 | some g=>obtain ⟨j,q⟩:=g;simp only;cases hd:ug ops j<;>rfl
theorem nj (ops:Array Oper) (o:Oper):(aF P ops o).op=cq P o\/(aF P ops o).op= .bad:=by
 unfold aF
 cases hg:o.guard with
 | none=>left;rfl
 | some g=>
  obtain ⟨j,q⟩:=g;simp only
  cases hd:ug ops j with
  | none=>right;rfl
  | some d=>left;rfl
theorem Gu (o:Oper) (f:Nat) (args:List RX):cq P o≠ .qH f args:=by
 intro h;unfold cq at h
 cases hop:o.op with
 | binOp op ty x y yt=>
  simp only [hop] at h;split at h
  ·unfold eM at h;(repeat' split at h)<;>simp at h
  ·unfold eM at h;(repeat' split at h)<;>simp at h
  ·simp at h
 | makeFunc fn first cap=>cases fn<;>simp only [hop] at h<;>(repeat' split at h)<;>simp at h
 | slice ty x lo hi mx=>cases mx<;>simp only [hop] at h<;>(repeat' split at h)<;>simp at h
 | makeMap ty r=>cases r<;>simp only [hop] at h<;>simp at h
 | next x b=>cases b<;>simp only [hop] at h<;>simp at h
 | _=>simp only [hop] at h;(repeat' split at h)<;>simp at h
theorem Ch (o:Oper) (sz b:Nat) (y z:RX):cq P o≠ .kO sz b y z:=by
 intro h;unfold cq at h
 cases hop:o.op with
 | binOp op ty x y yt=>
  simp only [hop] at h;split at h
  ·unfold eM at h;(repeat' split at h)<;>simp at h
  ·unfold eM at h;(repeat' split at h)<;>simp at h
  ·simp at h
 | makeFunc fn first cap=>cases fn<;>simp only [hop] at h<;>(repeat' split at h)<;>simp at h
 | slice ty x lo hi mx=>cases mx<;>simp only [hop] at h<;>(repeat' split at h)<;>simp at h
 | makeMap ty r=>cases r<;>simp only [hop] at h<;>simp at h
 | next x b=>cases b<;>simp only [hop] at h<;>simp at h
 | _=>simp only [hop] at h;(repeat' split at h)<;>simp at h
theorem Ci (o:Oper) (sz:Nat) (z:List AV) (len:Nat) (parts:List (Nat×RX)):cq P o≠ .lQ sz z len parts:=by
 intro h;unfold cq at h
 cases hop:o.op with
 | binOp op ty x y yt=>
  simp only [hop] at h;split at h
  ·unfold eM at h;(repeat' split at h)<;>simp at h
  ·unfold eM at h;(repeat' split at h)<;>simp at h
  ·simp at h
 | makeFunc fn first cap=>cases fn<;>simp only [hop] at h<;>(repeat' split at h)<;>simp at h
 | slice ty x lo hi mx=>cases mx<;>simp only [hop] at h<;>(repeat' split at h)<;>simp at h
 | makeMap ty r=>cases r<;>simp only [hop] at h<;>simp at h
 | next x b=>cases b<;>simp only [hop] at h<;>simp at h
 | _=>simp only [hop] at h;(repeat' split at h)<;>simp at h
theorem NZ {lo:Nat->Prop} {F:Fo} {G:Nat->List AV} {c:Ctx} (hG:∀ g,AV.aS 0 (G g)=true) {t:List AV} {d:Option Nat} {v r:AV} {H1 H2:List Obj} {a:Act} (h:FR lo F G c ⟨cO t d v,H1⟩ a)
 (hf:jB 0 ⟨[v],H1⟩=some ⟨[r],H2⟩):∃ e:Ctx,e.w=c.w/\FR lo F G e ⟨cO t d r,H2⟩ a/\∀ n,cM n c e:=by
 have out:cO t d v=t->cO t d r=t->∃ e:Ctx,e.w=c.w/\FR lo F G e ⟨cO t d r,H2⟩ a/\∀ n,cM n c e:=by
  intro e1 e2;rw [e1] at h;rw [e2];simp only [jB,List.getD_cons_zero] at hf;split at hf
  ·split at hf
   case h_2=>simp at hf
   rename_i sz es hl;obtain ⟨nl,hid⟩:=bu hl;split at hf
   case isFalse=>simp at hf
   rename_i hc;simp only [Option.some.injEq,St.mk.injEq] at hf;obtain ⟨_,rfl⟩:=hf;exact DA hG h hid (by have:=hc.2.2;simpa [cw,hid] using this)
  ·simp only [Option.some.injEq,St.mk.injEq] at hf;obtain ⟨_,rfl⟩:=hf;exact ⟨c,rfl,h,fun n=>cM.refl n c⟩
 cases d with
 | none=>exact out rfl rfl
 | some d=>
  rcases Nat.lt_or_ge d t.length with hd | hd
  ·have hg:(t.set d v).getD d .any=v:=by simp [List.getD,hd]
   have hf':jB d ⟨t.set d v,H1⟩=some ⟨t.set d r,H2⟩:=by
    simp only [jB,List.getD_cons_zero] at hf;simp only [jB,hg];split at hf
    ·split at hf
     case h_2=>simp at hf
     split at hf
     case isFalse=>simp at hf
     rename_i hc;simp only [Option.some.injEq,St.mk.injEq,List.set_cons_zero,List.cons.injEq,and_true] at hf;obtain ⟨rfl,rfl⟩:=hf;simp [*]
    ·simp only [Option.some.injEq,St.mk.injEq,List.cons.injEq,and_true] at hf;obtain ⟨rfl,rfl⟩:=hf;first | rfl | (split;rename_i hne _ _ _ _;exact (hne _ _ _ _ rfl).elim;rfl)
   obtain ⟨e,e1,e2,e3,_⟩:=rG hG h hf';exact ⟨e,e1,e2,e3⟩
  ·have e:∀ u:AV,cO t (some d) u=t:=fun u=>by simp only [cO];exact List.set_eq_of_length_le hd
   exact out (e v) (e r)
theorem DO {G:Nat->List AV} {cI:CI} {pl:Nat} {x:RO} {t:List AV} {H:List Obj} {r} (h:∀ f args,x≠ .qH f args) (h':∀ sz b y z,x≠ .kO sz b y z) (h'':∀ sz z len parts,x≠ .lQ sz z len parts) (he:eW G cI pl x t H=some r):evalOp G eF cI j6 pl x t H=some r:=by
 cases x<;>first | exact he | exact (h _ _ rfl).elim | exact (h' _ _ _ _ rfl).elim | exact (h'' _ _ _ _ rfl).elim | (simp only [eW] at he;split at he;exact he;simp at he)
theorem BK {js:List Nat} (ops:Array Oper) (o:Oper) (r:bD):(pz P js ops o r).dst=r.dst/\(pz P js ops o r).guard=r.guard:=by
 unfold pz;split
 ·split
  ·exact ⟨rfl,rfl⟩
  ·split<;>exact ⟨rfl,rfl⟩
  ·exact ⟨rfl,rfl⟩
 ·split<;>exact ⟨rfl,rfl⟩
 ·split<;>exact ⟨rfl,rfl⟩
 ·exact ⟨rfl,rfl⟩
theorem N0 {js:List Nat} (ops:Array Oper) (o:Oper) (r:bD):pz P js ops o r=r\/(∃ f args,r.op= .call f args/\(pz P js ops o r).op= .qH f args)\/∃ x y,r.op=x/\(pz P js ops o r).op=y/\(x.dA=true/\y.dA=true)/\∀ (G:Nat->List AV) (cI:CI) (pl:Nat) (t:List AV) (H:List Obj),∃ w,eW G cI pl y t H=eA w (evalOp G eF cI j6 pl x t H):=by
 unfold pz;split
 ·rename_i f args hr;split
  ·exact .inr (.inl ⟨f,args,hr,rfl⟩)
  ·split
   ·exact .inr (.inl ⟨f,args,hr,rfl⟩)
   ·exact .inl rfl
  ·exact .inl rfl
 ·rename_i sz b x y hr;split
  ·exact .inr (.inr ⟨_,_,hr,rfl,⟨rfl,rfl⟩,fun G cI pl t H=>⟨_,rfl⟩⟩)
  ·exact .inl rfl
 ·rename_i sz z len parts hr;split
  ·exact .inr (.inr ⟨_,_,hr,rfl,⟨rfl,rfl⟩,fun G cI pl t H=>⟨_,rfl⟩⟩)
  ·exact .inl rfl
 ·exact .inl rfl
theorem Gq {js:List Nat} {ops:Array Oper} {l:List bD} {i:Nat} (hi:i < ops.size) (hl:i < l.length):∃ h:i < (nY P js ops l).length,(nY P js ops l)[i]=pz P js ops ops[i] l[i]:=by
 refine ⟨by simp [nY];omega,by simp [nY]⟩
theorem jt (ck:gU P E) (fu:∀ hs code,yx P E ex (comp P hs code) code) {js:List Nat} (ops:Array Oper) (rl:List (Nat×bD)) (l2:List Nat) {b0:Nat} {ρ:Option Nat} {lo:Nat->Prop} {F:Nat->Prop} {base:Nat}
 {Q:Exit->Act->World->Prop}:
 ∀ (l:List Nat) {c:Ctx} {t t':List AV} {H H':List Obj} {fs:List FP} {a:Act},(∀ i∈l,∃ h:i < ops.size,∃ k,rl.getD i (0,default)=(k,pz P js ops ops[i] (aF P ops ops[i])))->FR lo (fo P F) E.aI c ⟨t,H⟩ a->base<=c.H.length->
  fU E.aI (lO E.fns ex) b0 (l.map fun i=>rl.getD i (0,default)) t H=some (t',H',fs)->
  (∀ d a',FR lo (fo P F) E.aI d ⟨t',H'⟩ a'->cM base c d->wpOpsIn (wd ρ) 0 P ops Q l2 a' d.w)->wpOpsIn (wd ρ) 0 P ops Q (l++l2) a c.w
 | [],c,t,t',H,H',fs,a,_,h,_,hr,hQ=>by
  simp only [List.map_nil,fU,Option.some.injEq,Prod.mk.injEq] at hr;obtain ⟨rfl,rfl,_⟩:=hr;exact hQ c a h (cM.refl _ _)
 | i::l,c,t,t',H,H',fs,a,hl,h,hbase,hr,hQ=>by
  obtain ⟨hi,k,aN⟩:=hl i (by simp);have Yk:ops[i]?=some ops[i]:=Array.getElem?_eq_getElem hi;simp only [List.map_cons,aN] at hr;simp only [List.cons_append,wpOpsIn,Yk];generalize ops[i]=o at hr ⊢;have C1:(pz P js ops o (aF P ops o)).dst=o.dst:=(BK (P:=P) ops o _).1.trans (KZ (P:=P) ops o);have hgd:(pz P js ops o (aF P ops o)).guard=(aF P ops o).guard:=(BK (P:=P) ops o _).2;have AN:∀ pl x,evalOp E.aI eF (lO E.fns ex) j6 pl .bad t H=some x->False:=by
   intro pl x hx;simp [evalOp,RO.kind,evalW] at hx
  rw [fU] at hr;split at hr
  case h_2=>simp at hr
  rename_i v H1 f hact;split at hr
  case h_2=>simp at hr
  rename_i t1 H2 Xi PI;simp only [Option.some.injEq,Prod.mk.injEq] at hr;obtain ⟨rfl,rfl,_⟩:=hr;rw [C1] at PI;unfold pq at hact;rw [hgd] at hact;split at hact
  ·rename_i hw;split at hact
   case isFalse=>simp at hact
   rename_i cZ;split at hact
   case h_2=>simp at hact
   rename_i u H3 dP;simp only [Option.some.injEq,Prod.mk.injEq] at hact;obtain ⟨rfl,rfl,_⟩:=hact;rcases N0 (P:=P) ops o (aF P ops o) with hmk | ⟨f,args,hca,hmk⟩ | ⟨x,y,hca,hmk,⟨hal,aeW⟩,hfz⟩
   ·rw [hmk] at dP cZ;have Ar:evalOp E.aI eF (lO E.fns ex) j6 (b0+k) (aF P ops o).op t H=some (u,H3):=by
     have:∀ f args,(aF P ops o).op≠ .qH f args:=by
      intro f args e;rcases nj (P:=P) ops o with hop | hop
      ·rw [hop] at e;exact Gu o f args e
      ·rw [hop] at e;simp at e
     have Wl:∀ sz b y z,(aF P ops o).op≠ .kO sz b y z:=by
      intro sz b y z e;rcases nj (P:=P) ops o with hop | hop
      ·rw [hop] at e;exact Ch o sz b y z e
      ·rw [hop] at e;simp at e
     have Sy:∀ sz z len parts,(aF P ops o).op≠ .lQ sz z len parts:=by
      intro sz b y z e;rcases nj (P:=P) ops o with hop | hop
      ·rw [hop] at e;exact Ci o sz b y z e
      ·rw [hop] at e;simp at e
     exact DO this Wl Sy dP
    rcases nj (P:=P) ops o with hop | hop
    ·rw [hop] at Ar cZ;rcases rj (P:=P) h.tr o hw with mz | ⟨hb,_⟩
     ·rw [if_pos mz];refine vm ck fu (.inr rfl) h o (fun ha=> .inl (k8 cZ ha)) Ar fun d a' hd aT=>?_
      refine jt ck fu ops rl l2 l (fun j hj=>hl j (by simp [hj])) hd (Nat.le_trans hbase (aT.len (Nat.le_refl _))) PI fun d' CF hd' ja=>hQ d' CF hd' ?_
      exact cM.trans ⟨aT.size,aT.keep,fun x v hx=>aT.vals x v (eN hbase x hx),aT.owned,fun hn=>Nat.le_trans hn (aT.len (Nat.le_refl _)),aT.same,aT.jc⟩ ja
     ·rw [<-hop,hb] at Ar;exact (AN _ _ Ar).elim
    ·rw [hop] at Ar;exact (AN _ _ Ar).elim
   ·rw [hmk] at dP cZ;have hop:cq P o= .call f args:=by
     rcases nj (P:=P) ops o with hop | hop
     ·rw [<-hop];exact hca
     ·rw [hop] at hca;simp at hca
    rcases rj (P:=P) h.tr o hw with mz | ⟨hb,_⟩
    ·rw [if_pos mz];refine DN ck fu h o hop (.inl (k8 cZ rfl)) dP fun d a' hd aT=>?_
     refine jt ck fu ops rl l2 l (fun j hj=>hl j (by simp [hj])) hd (Nat.le_trans hbase (aT.len (Nat.le_refl _))) PI fun d' CF hd' ja=>hQ d' CF hd' ?_
     exact cM.trans ⟨aT.size,aT.keep,fun x v hx=>aT.vals x v (eN hbase x hx),aT.owned,fun hn=>Nat.le_trans hn (aT.len (Nat.le_refl _)),aT.same,aT.jc⟩ ja
    ·rw [hb] at hca;simp at hca
   ·rw [hmk] at dP cZ;have hop:cq P o=x:=by
     rcases nj (P:=P) ops o with hop | hop
     ·rw [<-hop];exact hca
     ·rw [hop] at hca;subst hca;simp [RO.dA] at hal
    obtain ⟨w,hfw⟩:=hfz E.aI (lO E.fns ex) (b0+k) t H;rw [hfw] at dP
    cases nS:evalOp E.aI eF (lO E.fns ex) j6 (b0+k) x t H with
    | none=>rw [nS] at dP;simp [eA] at dP
    | some q=>
    obtain ⟨v1,Ha⟩:=q;rw [nS] at dP;unfold eA at dP;dsimp only at dP;split at dP
    case isFalse=>simp at dP
    split at dP
    case h_2=>simp at dP
    rename_i r Hb hf;simp only [Option.some.injEq,Prod.mk.injEq] at dP;obtain ⟨rfl,rfl⟩:=dP;have Ar:evalOp E.aI eF (lO E.fns ex) j6 (b0+k) (cq P o) t H=some (v1,Ha):=by rw [hop];exact nS
    rcases rj (P:=P) h.tr o hw with mz | ⟨hb,_⟩
    ·rw [if_pos mz];refine vm ck fu (.inr rfl) h o (fun ha=> .inl (k8 cZ aeW)) Ar fun d a' hd aT=>?_
     obtain ⟨d2,g1,g2,g3⟩:=NZ ck.aI hd hf;rw [<-g1];refine jt ck fu ops rl l2 l (fun j hj=>hl j (by simp [hj])) g2 ((g3 base).len (Nat.le_trans hbase (aT.len (Nat.le_refl _)))) PI fun d' CF hd' ja=>hQ d' CF hd' ?_
     exact cM.trans ⟨aT.size,aT.keep,fun x v hx=>aT.vals x v (eN hbase x hx),aT.owned,fun hn=>Nat.le_trans hn (aT.len (Nat.le_refl _)),aT.same,aT.jc⟩ ((g3 base).trans ja)
    ·rw [hb] at hca;rw [<-hca] at hal;simp [RO.dA] at hal
  ·rename_i hw;simp only [Option.some.injEq,Prod.mk.injEq] at hact;obtain ⟨rfl,rfl,_⟩:=hact;have mz:Region.wanted o (yielded ops a.tmps)=false:=by
    rcases rj (P:=P) h.tr o hw with e | ⟨_,e⟩
    ·exact e
    ·rw [e] at hw;simp [want] at hw
   rw [if_neg (by simp [mz])];refine ⟨fun _ _=>trivial,?_⟩;exact jt ck fu ops rl l2 l (fun j hj=>hl j (by simp [hj])) ⟨h.sr,h.tr.put o.dst (zM c),h.hH,by rw [ek];exact h.df,h.gl⟩ hbase PI hQ
  ·simp at hact
end
end Go.Am
end
section
namespace Go.Am
open Go.MapKept
section
variable {P:Program} {E:Env} {ex:EX}
theorem Dr {F:Fo} {c:Ctx} (h:SR F c) (o:Go.Obj) (hn:∀ cells elem q,o≠Go.Obj.cells cells elem q):dD F c { c with w:=c.w.alloc o }:=by
 have hk:∀ b:Nat,b < c.w.heap.size->(c.w.alloc o).heap[b]?=c.w.heap[b]?:=(heap_alloc c.w o).2;have hlt:∀ b,(c.w.heap[b]?).isSome->b < c.w.heap.size:=by
  intro b hs;rcases Nat.lt_or_ge b c.w.heap.size with e | e
  ·exact e
  ·rw [Array.getElem?_eq_none e] at hs;simp at hs
 have hV:∀ x v,V c x v->V { c with w:=c.w.alloc o } x v:=fun x v hx=>
  V.mono (c:=c) (d:={ c with w:=c.w.alloc o }) (fun b hb hs=>⟨hk b (hlt b hs),hb⟩) (fun _ _ _ _ _ h=>h) (fun _ _ _ _ _ h=>h) (fun _ _ _ _ _ _ h=>h) (fun _ _ h=>h) hx
 have hsz:c.w.heap.size<=(c.w.alloc o).heap.size:=by rw [World.size_alloc];omega
 refine ⟨⟨⟨?_,h.hr.inj⟩,h.hO,fun b hf=>Nat.lt_of_lt_of_le (h.hF b hf) hsz,h.eD,h.x.keep (fun id o' h1 h2=>⟨h1,rfl,hk _ (h.nU h1 h2).1⟩) hV⟩,hV,
  fun n=>⟨hsz,fun b hb _ _=>hk b hb,fun x v _ hx=>hV x v hx,fun b ho=> .inl ho,fun hn=>hn,vB _ _ hn,fun b hb=> .inl hb⟩⟩
 intro id nl sz es h1 h2;obtain ⟨cells,elem,g1,g2,g3,g4,g5⟩:=h.hr.back id nl sz es h1 h2;refine ⟨cells,elem,(hk _ (hlt _ (by rw [g1];rfl))).trans g1,g2,g3,g4,fun i hi=>⟨(g5 i hi).1,fun j hj=>?_⟩⟩;obtain ⟨u,hu,hv⟩:=(g5 i hi).2 j hj;exact ⟨u,hu,hV _ _ hv⟩
theorem Dt {F:Fo} {c:Ctx} (h:SR F c) {id:Nat} {o:Obj} (hid:c.H[id]?=some o) (ho:o.sp=true) (wo:Go.Obj) (hn:∀ cells elem q,wo≠Go.Obj.cells cells elem q):
 ∃ d:Ctx,d.w=c.w.putObj (c.ι id) wo/\d.H=c.H.set id .dead/\dD F c d:=by
 obtain ⟨w0,g1,g2⟩:=h.x.xr id o hid ho;have cu:=bJ hid;let H':=c.H.set id .dead;have aN:∀ (j:Nat) (o':Obj),o'≠ .dead->H'[j]?=some o'->j≠id/\c.H[j]?=some o':=by
  intro j o' hd hs;by_cases hj:j=id
  ·subst hj;simp [H',cu] at hs;exact (hd hs.symm).elim
  ·refine ⟨hj,?_⟩;rw [<-hs];simp only [H'];rw [List.getElem?_set_ne (fun q=>hj q.symm)]
 have hown:∀ b,bB H' c.ι b->bB c.H c.ι b:=by
  rintro b ⟨j,nl,sz,es,q1,q2,q3⟩;exact ⟨j,nl,sz,es,(aN _ _ (by simp) q1).2,q2,q3⟩
 have hB:¬ bB c.H c.ι (c.ι id):=(h.nU hid ho).2;let d:Ctx:=⟨c.w.putObj (c.ι id) wo,fun b=>F b\/bB H' c.ι b,c.ι,c.K,H'⟩;have hk:∀ b,b≠c.ι id->d.w.heap[b]?=c.w.heap[b]?:=fun b hb=>World.putObj_heap_other hb
 have ct:∀ i,Has c i->Has d i:=by
  rintro i ⟨h1,h2⟩;refine ⟨by simpa [d,H'] using h1,fun e=>?_⟩;exact h2 (aN _ _ (by simp) e).2
 have hsp:∀ j o',d.H[j]?=some o'->o'.sp=true->c.H[j]?=some o'/\d.ι j=c.ι j/\d.w.heap[c.ι j]?=c.w.heap[c.ι j]?:=by
  intro j o' h1 h2;obtain ⟨h3,h4⟩:=aN j o' (by rintro rfl;simp [Obj.sp] at h2) h1;exact ⟨h4,rfl,hk _ fun e=>h3 (h.x.xi j id o' o h4 h2 hid ho e)⟩
 have hV:∀ x v,V c x v->V d x v:=by
  intro x v hx;refine V.D9 ?_ ?_ ?_ ?_ (fun i b hs=>hs.keep ct hsp) hx
  ·intro b p u hb hc;have hne:b≠c.ι id:=by
    rintro rfl;unfold World.cell? at hc;rw [g1] at hc
    cases w0 with
    | cells c1 e1 q1=>exact g2.pL _ _ _ rfl
    | _=>simp at hc
   refine ⟨by rw [<-hc];simp only [World.cell?,hk b hne],?_⟩;rintro (hf | ho')
   ·exact hb ((h.hO b).2 (.inl hf))
   ·exact hb ((h.hO b).2 (.inr (hown b ho')))
  ·rintro i e p l v ⟨q1,q2,q3⟩;exact ⟨ct i q1,q2,fun nl sz es hs=>q3 nl sz es (aN _ _ (by simp) hs).2⟩
  ·rintro i e p l v ⟨q1,q,q2,q3,q4⟩;exact ⟨ct i q1,q,q2,q3,fun nl sz es hs=>q4 nl sz es (aN _ _ (by simp) hs).2⟩
  ·rintro i e p l k v ⟨q1,q,q2,q3,q4⟩;exact ⟨ct i q1,q,q2,q3,fun nl sz es hs=>q4 nl sz es (aN _ _ (by simp) hs).2⟩
 have hsz:d.w.heap.size=c.w.heap.size:=World.putObj_size;refine ⟨d,rfl,rfl,⟨⟨?_,?_⟩,fun b=>Iff.rfl,fun b hf=>by rw [hsz];exact h.hF b hf,fun b hb=>h.eD b (hown b hb),h.x.keep hsp hV⟩,hV,
  fun n=>⟨by rw [hsz];exact Nat.le_refl _,fun b _ _ hs=>hk b fun e=>hs ⟨id,o,hid,ho,e.symm⟩,fun x v _ hx=>hV x v hx,fun b hb=> .inl (hown b hb),fun hn=>by simpa [d,H'] using hn,AS g1 rfl g2.pL hn,fun b hb=> .inl (cL hsp hb)⟩⟩
 ·intro i nl sz es hs hbk;have hs':=(aN _ _ (by simp) hs).2;obtain ⟨cells,elem,q1,q2,q3,q4,q5⟩:=h.hr.back i nl sz es hs' hbk;have hne:c.ι i≠c.ι id:=fun e=>hB (by rw [<-e];exact ⟨i,nl,sz,es,hs',hbk,rfl⟩)
  refine ⟨cells,elem,(hk _ hne).trans q1,q2,q3,.inr ⟨i,nl,sz,es,hs,hbk,rfl⟩,fun q hq=>⟨(q5 q hq).1,fun j hj=>?_⟩⟩;obtain ⟨u,hu,hv⟩:=(q5 q hq).2 j hj;exact ⟨u,hu,hV _ _ hv⟩
 ·intro i i' _ _ _ _ _ _ h1 h2 h3 h4 he hlt;exact h.hr.inj i i' _ _ _ _ _ _ (aN _ _ (by simp) h1).2 h2 (aN _ _ (by simp) h3).2 h4 he hlt
theorem FZ (ck:gU P E) (fu:∀ hs code,yx P E ex (comp P hs code) code) {hs:List (Nat×Hint)} {g:Operand} {ps:Array Tmp} {b9 body:Code} (hna:lV b9=true) (hnb:lV body=true)
 {lo:Nat->Prop} {F:Nat->Prop} {c:Ctx} {base:Nat} {s:St} {a:Act} (hfr:FR lo (fo P F) E.aI c s a) (hb:base<=c.H.length) {f:Nat} {cap:List AV}
 (hg:(cx g).ev E.aI s.tmps= .fn f cap) {u:AV} {H':List Obj} (hr:yy E.fns ex (some f) (.eI s.H.length::cap) (s.H++[.lp .ready s.tmps ps.toList (comp P hs b9) (comp P hs body)])=some (u,H'))
 {e:Ex} (he:ke H' s.H.length=some e) {Q:Exit->Act->World->Prop}
 (hQ:∀ d a',FR lo (fo P F) E.aI d ⟨s.tmps,H'.set s.H.length .dead⟩ a'->cM base c d->Q (qS e) a' d.w):(Code.rangeFunc g ps b9 body).wpIn (wd none) 0 P Q a c.w:=by
 have hH:=hfr.hH;have hent:∀ args w,(callFunc f args).run P w= .ok (.enter f args) w:=by
  have:∃ rf,E.fns f=some rf:=by
   unfold yy at hr;dsimp only at hr;split at hr
   ·rename_i rf qG;exact ⟨rf,qG⟩
   ·simp at hr
  obtain ⟨rf,qG⟩:=this;obtain ⟨fn,hs,hf,hc⟩:=ck.fns f rf qG;obtain ⟨code,hb,hn,_⟩:=jq hc;exact fun args w=>ry hf hn hb args w
 have Xz:=tO hfr.tr hfr.gl g;rw [hg] at Xz;generalize UU:a.eval g=gv at Xz
 cases Xz with
 | fn _ _ vs hvs hcv=>
 refine wpIn_rangeFunc ?_;intro fn hfn;have w1:=Dr hfr.sr (.deferred (some [])) (by simp);have hD0:(c.w.alloc (.deferred (some []))).heap[c.w.heap.size]?=some (.deferred (some [])):=(heap_alloc c.w _).1;have YE:(c.w.alloc (.deferred (some []))).heap.size=c.w.heap.size+1:=World.size_alloc ..;obtain ⟨d1,m1,m2,m3,m4,m5⟩:=HD w1.1 (pl:=c.H.length) (.inr rfl) (.lp .ready s.tmps ps.toList (comp P hs b9) (comp P hs body)) rfl
  (.loop { state:= .ready,pending:=none,fn,tmps:=a.tmps,params:=ps,assign:=b9,body,defers:=c.w.heap.size }) (by simp)
  (fun d hv=>⟨_,rfl,(hfr.tr.gD w1.2.1).gD hv,rfl,⟨hs,rfl,hna⟩,⟨hs,rfl,hnb⟩,rfl,rfl⟩)
 have PY:dD (fo P F) c d1:=w1.trans m3;have DX:d1.H=s.H++[.lp .ready s.tmps ps.toList (comp P hs b9) (comp P hs body)]:=by
  rw [m2];unfold putObj;rw [if_neg (Nat.lt_irrefl _)];rw [show ({ c with w:=c.w.alloc (.deferred (some [])) }:Ctx).H=s.H from hH]
 have Ea:d1.H.length=s.H.length+1:=by rw [DX];simp
 have cZ:c.H.length=s.H.length:=by rw [hH]
 rw [cZ] at m4 m5;have CJ:({ c with w:=c.w.alloc (.deferred (some [])) }:Ctx).w.heap.size=c.w.heap.size+1:=YE;rw [CJ] at m4 m5;rw [<-DX] at hr;have XA:d1.w.heap[c.w.heap.size]?=some (.deferred (some [])):=by
  rw [m1];exact ((heap_alloc _ _).2 _ (by rw [CJ];omega)).trans hD0
 have UW:d1.w.heap.size=c.w.heap.size+2:=by rw [m1,World.size_alloc,CJ]
 refine ⟨c.w.heap.size+1,[{ target:= .collected c.w.heap.size,args:=#[] }],d1.w,{ target:= .fn (.func f) vs,args:=#[.func (.yield (c.w.heap.size+1)) #[] #[]] },d1.w,f,
  #[.func (.yield (c.w.heap.size+1)) #[] #[]]++vs,d1.w,?_,?_,fun _ _=>trivial,?_,fun h=>by simp [wd,Fence.wide] at h,?_⟩
 ·rw [m1];exact run_enterLoop_outer _ _ _ _ _
 ·simp only [resolve,UU];simp [go_sem]
 ·simp [invoke,go_sem,hent]
 have xb:=uD ck fu (c:=d1) (vs:=(.func (.yield (c.w.heap.size+1)) #[] #[])::vs.toList) hr m3.1 (hfr.gl.nI ck.aI (PY.2.2 0)) (by simp [hvs]) (fun i hi hj=>by
  cases i with
  | zero=>exact .eI _ _ m4
  | succ i=>exact PY.2.1 _ _ (hcv i (by simpa using hi) (by simpa using hj)))
 have lP:((Value.func (.yield (c.w.heap.size+1)) #[] #[])::vs.toList).toArray=#[.func (.yield (c.w.heap.size+1)) #[] #[]]++vs:=by apply Array.ext';simp
 rw [lP] at xb;refine (uE (ρ:=none) (n:=0) xb).mono ?_;rintro ev w2 ⟨v,d,rfl,rfl,h1,h2,h3,_⟩;obtain ⟨t',ps',T3,body',st,hid,hst⟩:∃ t' ps' T3 body' st,d.H[s.H.length]?=some (.lp st t' ps' T3 body')/\(st= .ready/\e= .normal\/st= .done e):=by
  rw [h1];unfold ke at he;split at he
  ·rename_i hq;injection he with he;exact ⟨_,_,_,_,_,hq,.inl ⟨rfl,he.symm⟩⟩
  ·rename_i hq;injection he with he;subst he;exact ⟨_,_,_,_,_,hq,.inr rfl⟩
  ·simp at he
 have hbd:c.w.heap.size+1=d.ι s.H.length:=h3.uF (by rw [Ea];omega) m4 hid rfl;obtain ⟨wo,g1,r,rfl,_,_,_,_,g6⟩:=h2.x.xr _ _ hid rfl;rw [<-hbd] at g1;have hnb:r.state≠ .busy:=by
  rcases hst with ⟨rfl,_⟩ | rfl
  ·intro q;have:=g6.1;rw [this] at q;cases q
  ·intro q;have:=g6.1;rw [this] at q;cases q
 obtain ⟨d2,n1,n2,n3⟩:=Dt h2 hid rfl (.loop { r with state:= .exhausted }) (by simp);rw [<-hbd] at n1;have S0:cM c.H.length c d1:=PY.2.2 _;have hf2:cM c.H.length d1 d2:=cM.trans ⟨h3.size,h3.keep,fun x v hx=>h3.vals x v (eN (by rw [Ea,cZ];omega) x hx),h3.owned,fun _=>by have:=h3.len (Nat.le_refl _);omega,h3.same,h3.jc⟩ (n3.2.2 _);have aT:cM c.H.length c d2:=S0.trans hf2;have HE:cM base c d2:=⟨aT.size,aT.keep,fun x v hx=>aT.vals x v (eN hb x hx),aT.owned,fun _=>Nat.le_trans hb (aT.len (Nat.le_refl _)),aT.same,aT.jc⟩;have hDd:d2.w.heap[c.w.heap.size]?=some (.deferred (some [])):=by
  rw [hf2.keep _ (by rw [UW];omega) ?_ ?_,XA]
  ·rintro ⟨id,nl,sz,es,q1,q2,q3⟩;obtain ⟨cells,elem,q4,_⟩:=m3.1.hr.back id nl sz es q1 q2;rw [q3,XA] at q4;simp at q4
  ·rintro ⟨id,o,q1,q2,q3⟩;obtain ⟨wo,q4,q5⟩:=m3.1.x.xr id o q1 q2;rw [q3,XA] at q4;injection q4 with q4
   exact q5.Eb _ q4.symm
 have CL:FR lo (fo P F) E.aI d2 ⟨s.tmps,H'.set s.H.length .dead⟩ { a with defers:=[{ target:= .collected c.w.heap.size,args:=#[] }]++a.defers }:=by
  refine ⟨n3.1,⟨hfr.tr.1,fun i hi hj=>aT.vals _ _ ((hfr.tr.2 i hi hj).bA) (hfr.tr.2 i hi hj)⟩,by rw [n2,h1],?_,hfr.gl.nI ck.aI aT⟩;obtain ⟨hlo,Ds,k1,k2,k3⟩:=hfr.df;obtain ⟨YF,Ds5,_,_,_⟩:=hfr.df.nI hfr.sr aT;refine ⟨YF,c.w.heap.size::Ds,?_,?_,?_⟩
  ·rw [List.nodup_cons];refine ⟨fun h=>?_,k1⟩;have:=(k3 _ h).2;rw [Array.getElem?_eq_none (Nat.le_refl _)] at this;simp at this
  ·rw [List.map_cons,<-k2];rfl
  ·intro D' Pz;rcases List.mem_cons.1 Pz with rfl | Pz
   ·exact ⟨hlo _ (Nat.le_refl _),hDd⟩
   ·have h3:=(k3 D' Pz).2;have hlt:D' < c.w.heap.size:=(Array.getElem?_eq_some_iff.1 h3).1;refine ⟨(k3 D' Pz).1,(aT.keep D' hlt ?_ ?_).trans h3⟩
    ·rintro ⟨id,nl,sz,es,q1,q2,q3⟩;obtain ⟨cells,elem,q4,_⟩:=hfr.sr.hr.back id nl sz es q1 q2;rw [q3,h3] at q4;simp at q4
    ·rintro ⟨id,o,q1,q2,q3⟩;obtain ⟨wo,q4,q5⟩:=hfr.sr.x.xr id o q1 q2;rw [q3,h3] at q4;injection q4 with q4
     exact q5.Eb _ q4.symm
 refine ⟨r.pending,_,run_endLoop (P:=P) g1 hnb,?_⟩;rw [<-n1];rcases hst with ⟨rfl,rfl⟩ | rfl
 ·rw [g6.2];exact hQ d2 _ CL HE
 ·rw [g6.2.1]
  cases e with
  | normal=>exact (g6.2.2 rfl).elim
  | ret=>exact wpIn_ret (hQ d2 _ CL HE)
  | exit i=>exact wpIn_exit (hQ d2 _ CL HE)
end
end Go.Am
end
