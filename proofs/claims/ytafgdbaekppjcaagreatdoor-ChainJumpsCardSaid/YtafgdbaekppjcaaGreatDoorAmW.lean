/- Parts of my machine and its laws, joined: AmW AmXr. No condition. -/
import Derived.Test.YtafgdbaekppjcaaGreatDoorAmSr
import Derived.RangeFuncRecord
import Derived.RangeFuncIn
import Derived.RangeFuncSeq
set_option linter.unusedSectionVars false
set_option linter.unusedVariables false
set_option linter.unusedSimpArgs false
section
namespace Go.Am
structure ae7 (G:Nat->Prop) (w w':World):Prop where
 size:w.heap.size<=w'.heap.size
 keep:∀ b:Nat,b < w.heap.size->¬ G b->w'.heap[b]?=w.heap[b]?
 same:cZ w w'
abbrev fo (P:Program) (F:Nat->Prop):Fo:=⟨F,CR P⟩
structure iH (P:Program) (E:Env):Prop where
 fns:∀ f rf,E.fns f=some rf->∃ fn hs,P.funcs[f]?=some fn/\wh P hs rf.nargs fn=some rf
 Uz:∀ f rf,E.fns f=some rf->(rf.nargs=999->M4 P f)/\(rf.nargs=998->T4 P f)
 aF:∀ g,AV.aR 0 (E.aF g)=true
def sM:Ex->Exit
 | .normal=> .normal
 | .exit id=> .exit id
 | .ret=> .ret
def wd (ρ:Option Nat):Fence:={ Fence.wide with round:=ρ }
theorem wQ {ρ:Option Nat} {n:Nat} {P:Program} {f:FuncId} {args:Array Value} {w:World} {R:Ending->World->Prop} (h:Calls P f args w R):CallsIn (wd ρ) n P f args w R:=
 (callsIn_wide (n:=n)).2 h
def AQ (P:Program) (E:Env) (ex:EX) (rc:RC) (code:Code):Prop:=
 ∀ (ρ:Option Nat),(ρ=none\/nj code=true)->∀ (lo:Nat->Prop) (F:Nat->Prop) (c:Ctx) (base:Nat) (s:St) (e:Ex) (s':St) (a:Act),FR lo (fo P F) E.aF c s a->base<=c.H.length->ex rc base s=some (e,s')->
  ∀ Q:Exit->Act->World->Prop,(∀ d a',FR lo (fo P F) E.aF d s' a'->cK base c d->Q (sM e) a' d.w)->code.wpIn (wd ρ) 0 P Q a c.w
section
variable {P:Program} {E:Env} {ex:EX}
theorem El {F:Nat->Prop} {c:Ctx} {rf:RF} {fn:Func} (iU:SR (fo P F) c) (CL:gU c E.aF) {xs:List AV} {vs:List Value} (hl:vs.length=xs.length)
 (hv:∀ i (hi:i < xs.length) (hj:i < vs.length),V c xs[i] vs[i]) (hnt:rf.ntmps=fn.ntmps):
 FR (fun b=>c.w.heap.size<=b) (fo P F) E.aF c ⟨start rf xs,c.H⟩ { tmps:=vs.toArray++Array.replicate (fn.ntmps - vs.toArray.size) undef,defers:=[] }:=by
 refine ⟨iU,⟨by simp [start,hl,hnt],fun i hi hj=>?_⟩,rfl,Marks.nil (fun _ h=>h),CL⟩;simp only [start];by_cases h:i < xs.length
 ·rw [zaU h,Array.getElem_append_left (by simp;omega)];simpa using hv i h (by omega)
 ·rw [zaQ (by omega),Array.getElem_append_right (by simp;omega)];simp only [List.getElem_replicate,Array.getElem_replicate];exact .any _
theorem At {c:Ctx} {s:St} {a:Act} {fn:Func} (hr:HR c) (ht0:TR c s.tmps a.tmps) (hHs:c.H=s.H) {rs:List (Sum Nat (Nat×Nat×Bool))} (hc:jk P fn.results.toList=some rs)
 {l:List AV} (hl:cL rs s=some l):∃ v,(results fn a.tmps).run P c.w= .ok v c.w/\V c (oneOf l) v:=by
 have slot:∀ t,V c (s.tmps.getD t .any) (a.tmps.getD t undef):=by
  intro t;by_cases ht:t < s.tmps.length
  ·have ht':t < a.tmps.size:=by rw [ht0.1];exact ht
   rw [zbu,za1 ht,zaz,zbo,zam ht',zaz];exact ht0.2 t ht ht'
  ·rw [zbu,zao (Nat.le_of_not_lt ht),Option.getD_none];exact .any _
 have key:∀ (xs:List ResultVar) (rs:List (Sum Nat (Nat×Nat×Bool))) (l:List AV),jk P xs=some rs->cL rs s=some l->
  ∃ vs:List Value,(xs.mapM (fun r:ResultVar=>(match r with | .tmp t=>pure (a.tmps.getD t undef) | .cell q t=>do loadVar t (<- asAddr (a.tmps.getD q undef)):Sem Value))).run P c.w= .ok vs c.w/\
   vs.length=l.length/\∀ i (hi:i < l.length) (hj:i < vs.length),V c l[i] vs[i]:=by
  intro xs;induction xs with
  | nil=>intro rs l h1 h2;simp [jk] at h1;subst h1;simp [cL] at h2;subst h2;exact ⟨[],by simp,rfl,by simp⟩
  | cons r xs ih=>
   intro rs l h1 h2
   cases r with
   | tmp t=>
    simp only [jk] at h1;split at h1
    case h_2=>simp at h1
    rename_i rs' h3;injection h1 with h1;subst h1
    simp only [cL] at h2;split at h2
    case h_2=>simp at h2
    rename_i l' h4;injection h2 with h2;subst h2
    obtain ⟨vs,e1,e2,e3⟩:=ih rs' l' h3 h4;refine ⟨a.tmps.getD t undef::vs,?_,by simp [e2],fun i hi hj=>?_⟩
    ·rw [List.mapM_cons];simp only [Sem.run_bind,Sem.run_pure,Result.andThen_ok];rw [e1];rfl
    ·cases i with
     | zero=>exact slot t
     | succ i=>exact e3 i (zbj hi) (zbj hj)
   | cell q t=>
    simp only [jk] at h1;split at h1
    case h_2=>simp at h1
    rename_i n ag rs' hn ha h3;injection h1 with h1;subst h1
    simp only [cL] at h2;split at h2
    case h_2=>simp at h2
    rename_i v l' hv h4;injection h2 with h2;subst h2
    obtain ⟨vs,e1,e2,e3⟩:=ih rs' l' h3 h4;rw [<-hHs] at hv;obtain ⟨u,hu,hV⟩:=MT (P:=P) hr hn ha (slot q) hv;have aeA:∃ ad,a.tmps.getD q undef= .pointer (some ad):=by
     have hs:=slot q;revert hs hv;generalize s.tmps.getD q .any=x;generalize a.tmps.getD q undef=xv;intro hv hs;unfold loadAt at hv;split at hv
     ·cases hs;exact ⟨_,rfl⟩
     ·cases hs with
      | aJ _ _ _ _ _ hp=>obtain ⟨_,ad,rfl,_⟩:=hp;exact ⟨_,rfl⟩
     ·simp at hv
    obtain ⟨ad,had⟩:=aeA;rw [had] at hu;refine ⟨u::vs,?_,by simp [e2],fun i hi hj=>?_⟩
    ·rw [List.mapM_cons];have has:(asAddr (a.tmps.getD q undef)).run P c.w= .ok ad c.w:=by rw [had];rfl
     simp only [Sem.run_bind,has,Result.andThen_ok];simp only [Instr.loadAt,Instr.sureAddr,Sem.run_bind,Sem.run_pure,Result.andThen_ok] at hu;rw [hu];simp only [Result.andThen_ok];rw [e1];rfl
    ·cases i with
     | zero=>exact hV
     | succ i=>exact e3 i (zbj hi) (zbj hj)
 obtain ⟨vs,e1,e2,e3⟩:=key fn.results.toList rs l hc hl;refine ⟨if h:vs.toArray.size=1 then vs.toArray[0] else .tuple vs.toArray,?_,?_⟩
 ·have UA:∀ g:ResultVar->Sem Value,(∀ r,g r=(match r with | .tmp t=>pure (a.tmps.getD t undef) | .cell q t=>do loadVar t (<- asAddr (a.tmps.getD q undef))))->
   (fn.results.toList.mapM g).run P c.w= .ok vs c.w:=fun g hg=>by rw [funext hg];exact e1
  unfold results;rw [Array.mapM_eq_mapM_toList];simp only [Sem.run_bind,Sem.run_map];rw [UA _ (fun r=>by cases r<;>rfl)];rfl
 ·match l,vs,e2,e3 with
  | [x],[v],_,e3=>simpa [oneOf] using e3 0 (by simp) (by simp)
  | [],[],_,_=>exact .aY [] #[] rfl fun i hi=>by simp at hi
  | x::y::l,v::u::vs,e2,e3=>
   have:oneOf (x::y::l)= .aY (x::y::l):=rfl;rw [this,dif_neg (by simp)];exact .aY _ _ (by simpa using e2) fun i hi hj=>e3 i hi (by simpa using hj)
theorem j5 {hs:List (Nat×Hint)} {n:Nat} {fn:Func} {rf:RF} (h:wh P hs n fn=some rf):
 ∃ code,fn.body=some code/\(fn.name== "runtime.NumGoroutine")=false/\jk P fn.results.toList=some rf.results/\rf.body=comp P hs code/\rf.ntmps=fn.ntmps/\rf.nargs=n:=by
 unfold wh at h;split at h
 case h_2=>simp at h
 rename_i code rs hb hr;split at h
 ·simp at h
 ·rename_i hn;injection h with h;subst h
  exact ⟨code,hb,by simpa using hn,hr,rfl,rfl,rfl⟩
structure Bl (w w':World):Prop where
 size:w'.heap.size=w.heap.size
 same:cZ w w'
 keep:∀ b:Nat,w'.heap[b]?=w.heap[b]?\/∃ x:Option (List Deferred),w.heap[b]?=some (Go.Obj.deferred x)
theorem cZ.putObj {w:World} {D:Nat} {o o':Go.Obj} (h:w.heap[D]?=some o) (h1:∀ cells elem q,o≠Go.Obj.cells cells elem q) (h2:∀ cells elem q,o'≠Go.Obj.cells cells elem q):cZ w (w.putObj D o'):=by
 refine ⟨rfl,rfl,rfl,fun a _=>?_,by rw [World.putObj_size];exact za7 _⟩;have hlt:D < w.heap.size:=by
  rcases zak D w.heap.size with e | e
  ·exact e
  ·rw [zan e] at h;simp at h
 unfold World.frozen?;by_cases e:a.block=D
 ·rw [e,World.putObj_heap_same hlt,h]
  cases o<;>cases o'<;>first | rfl | (exact absurd rfl (h1 _ _ _)) | (exact absurd rfl (h2 _ _ _))
 ·rw [World.putObj_heap_other e]
theorem mP {fn:Func} {tmps:Array Value} {R:Ending->World->Prop}:∀ (Ds:List Nat) (w:World),Ds.Nodup->(∀ D∈Ds,w.heap[D]?=some (.deferred (some [])))->
 (∀ w',Bl w w'->(∀ b:Nat,w'.heap[b]?=w.heap[b]?\/b∈Ds)->∃ v,(results fn tmps).run P w'= .ok v w'/\R (.returned v) w')->
 LeavesInM Fence.wide 0 P fn tmps R (Ds.map fun D=>({ target:= .collected D,args:=#[] }:Deferred)) .returning w
 | [],w,_,_,h=>h w ⟨rfl,cZ.refl _,fun _=> .inl rfl⟩ (fun _=> .inl rfl)
 | D::Ds,w,hn,hw,h=>by
  have hD:=hw D (by simp);have hlt:D < w.heap.size:=by
   rcases zak D w.heap.size with e | e
   ·exact e
   ·rw [zan e] at hD;simp at hD
  rw [zbF] at hn;refine ⟨by simp,.inl ⟨D,_,rfl,run_takeDeferred hD,?_⟩⟩;refine mP Ds _ hn.2 (fun D' Ur=>?_) fun w' hs hk=>?_
  ·rw [World.putObj_heap_other (show D'≠D from fun e=>hn.1 (by rw [<-e];exact Ur))];exact hw D' (by simp [Ur])
  ·refine h w' ⟨by rw [hs.size,World.putObj_size],(cZ.putObj hD (by simp) (by simp)).trans hs.same,fun b=>?_⟩ fun b=>?_
   ·by_cases e:b=D
    ·exact .inr ⟨_,by rw [e];exact hD⟩
    ·rcases hs.keep b with h1 | ⟨x,h1⟩
     ·rw [World.putObj_heap_other e] at h1;exact .inl h1
     ·rw [World.putObj_heap_other e] at h1;exact .inr ⟨x,h1⟩
   ·by_cases e:b=D
    ·exact .inr (by simp [e])
    ·rcases hk b with h1 | h1
     ·rw [World.putObj_heap_other e] at h1;exact .inl h1
     ·exact .inr (by simp [h1])
theorem Bl.V {c:Ctx} {w':World} (h:Bl c.w w') {x:AV} {v:Value} (hx:V c x v):V { c with w:=w' } x v:=by
 refine V.HB (c:=c) (d:={ c with w:=w' }) (fun b o u hb hc=>⟨?_,hb⟩) (fun _ _ _ _ _ h=>h) (fun _ _ _ _ _ h=>h) (fun _ _ _ _ _ _ h=>h) (fun _ _ h=>h) hx;rcases h.keep b with e | ⟨x,e⟩
 ·unfold World.cell? at hc ⊢;simp only [e];exact hc
 ·unfold World.cell? at hc;simp [e] at hc
theorem Bl.hr {c:Ctx} {w':World} (h:Bl c.w w') (hr:HR c):HR { c with w:=w' }:=by
 refine ⟨?_,hr.inj⟩;intro id nl sz es h1 h2;obtain ⟨cells,elem,g1,g2,g3,g4,g5⟩:=hr.back id nl sz es h1 h2;refine ⟨cells,elem,?_,g2,g3,g4,fun i hi=>⟨(g5 i hi).1,fun j hj=>?_⟩⟩
 ·rcases h.keep (c.ι id) with e | ⟨x,e⟩
  ·exact e.trans g1
  ·rw [g1] at e;simp at e
 ·obtain ⟨u,hu,hv⟩:=(g5 i hi).2 j hj;exact ⟨u,hu,h.V hv⟩
theorem Bl.x {cr:RC->Code->Prop} {c:Ctx} {w':World} (h:Bl c.w w') (hx:XR cr c):XR cr { c with w:=w' }:=by
 refine ⟨fun id o h1 h2=>?_,hx.xi⟩;obtain ⟨wo,g1,g2⟩:=hx.xr id o h1 h2;refine ⟨wo,?_,g2.mono fun x v hv=>h.V hv⟩;rcases h.keep (c.ι id) with e | ⟨x,e⟩
 ·exact e.trans g1
 ·rw [g1] at e;injection e with e;exact (g2.HD _ e).elim
theorem Bl.oQ {c d:Ctx} {w':World} {n:Nat} (h:Bl d.w w') (hf:cK n c d) (hk:∀ b:Nat,b < c.w.heap.size->w'.heap[b]?=d.w.heap[b]?):cK n c { d with w:=w' }:=
 ⟨by rw [h.size];exact hf.size,fun b hb hn hs=>(hk b hb).trans (hf.keep b hb hn hs),fun x v hb hx=>h.V (hf.vals x v hb hx),hf.owned,hf.len,hf.same.trans h.same,hf.jL⟩
theorem xM (b7:iH P E) (fP:∀ hs code,AQ P E ex (comp P hs code) code) {f:Nat} {xs:List AV} {r:AV} (h:m6 E.fns ex f xs=some r)
 {F:Nat->Prop} {c:Ctx} (iU:SR (fo P F) c) (hH:c.H=[]) (CL:gU c E.aF) {vs:List Value} (hl:vs.length=xs.length) (hv:∀ i (hi:i < xs.length) (hj:i < vs.length),V c xs[i] vs[i]):
 Calls P f vs.toArray c.w fun e w'=>∃ v,e= .returned v/\(c.w.heap.size<=w'.heap.size/\cZ c.w w')/\(∀ b,b < c.w.heap.size->w'.heap[b]?=c.w.heap[b]?)/\r.bD 0=true/\
  ∀ c':Ctx,c'.w=w'->(∀ b,c'.O b->F b)->V c' r v:=by
 unfold m6 at h;split at h
 case h_2=>simp at h
 rename_i rf qA;split at h
 case isFalse=>
  exfalso;unfold YG at h;split at h
  case h_2=>simp at h
  cases vs with
  | nil=>simp at hl
  | cons v vs=>
   have h0:=hv 0 (by simp) (by simp)
   cases h0 with
   | aJ _ _ _ _ _ h0=>have:=h0.1.1;rw [hH] at this;simp at this
 rename_i hna;obtain ⟨fn,hs,hf,hc⟩:=b7.fns f rf qA;obtain ⟨code,hb,_,hres,hbody,hnt,_⟩:=j5 hc;have hfr:=El (E:=E) (rf:=rf) (fn:=fn) iU CL hl hv hnt;rw [hH] at hfr;refine (callsIn_wide (n:=0)).1 (callsIn_of_wp_marks hf hb trivial ?_);have fin:∀ (s':St) (l:List AV),cL rf.results s'=some l->pack s'.H (oneOf l)=some r->∀ d a',FR (fun b=>c.w.heap.size<=b) (fo P F) E.aF d s' a'->cK 0 c d->
  LeavesInM Fence.wide 0 P fn a'.tmps (fun e w'=>∃ v,e=Ending.returned v/\(c.w.heap.size<=w'.heap.size/\cZ c.w w')/\(∀ b,b < c.w.heap.size->w'.heap[b]?=c.w.heap[b]?)/\r.bD 0=true/\
   ∀ c':Ctx,c'.w=w'->(∀ b,c'.O b->F b)->V c' r v) a'.defers .returning d.w:=by
  intro s' l h1 h2 d0 a' AZ Ml;obtain ⟨_,Ds,m1,m2,m3⟩:=AZ.df;rw [m2];refine mP Ds d0.w m1 (fun D hD=>(m3 D hD).2) fun w' hs hk=>?_
  have aU:cK 0 c { d0 with w:=w' }:=hs.oQ Ml fun b hb=>(hk b).elim id fun hD=>by have:=(m3 b hD).1;omega
  have YX:=hs.hr AZ.sr.hr;have YQ:TR { d0 with w:=w' } s'.tmps a'.tmps:=⟨AZ.tr.1,fun i hi hj=>hs.V (AZ.tr.2 i hi hj)⟩;obtain ⟨v,e1,e2⟩:=At (P:=P) (c:={ d0 with w:=w' }) YX YQ AZ.hH hres h1;have hp:∀ c':Ctx,c'.w=w'->(∀ b,c'.O b->F b)->V c' r v/\r.bD 0=true:=by
   intro c' hw hO;exact Wx (c:={ d0 with w:=w' }) YX ⟨hw,fun b hb=>(AZ.sr.hO b).2 (.inl (hO b hb)),fun b ho hb=>AZ.sr.eF b ho (hO b hb)⟩ e2 (by rw [show ({ d0 with w:=w' }:Ctx).H=s'.H from AZ.hH];exact h2)
  refine ⟨v,e1,v,rfl,⟨aU.size,aU.same⟩,fun b hb=>aU.keep b hb ?_ ?_,?_,fun c' hw hO=>(hp c' hw hO).1⟩
  ·rintro ⟨id,nl,sz,es,h3,_⟩;rw [hH] at h3;simp at h3
  ·rintro ⟨id,o,h3,_⟩;rw [hH] at h3;simp at h3
  ·exact (hp ⟨w',fun _=>False,fun _=>0,fun _=>0,[]⟩ rfl (fun b hb=>hb.elim)).2
 split at h
 ·simp at h
 ·rename_i e s' hne hex;split at h
  case h_2=>simp at h
  rename_i l hl';rw [hbody] at hex;refine fP hs code none (.inl rfl) _ F c 0 _ e s' _ hfr (zaO _) hex _ fun d a' hd aU=>?_
  cases e with
  | exit id=>exact (hne id rfl).elim
  | normal=>exact fin s' l hl' h d a' hd aU
  | ret=>exact fin s' l hl' h d a' hd aU
 ·simp at h
theorem wP (b7:iH P E) (fP:∀ hs code,AQ P E ex (comp P hs code) code) {f:Nat} {xs:List AV} {r:AV} {H':List Obj} {F:Nat->Prop} {c:Ctx}
 (h:AR E.fns ex (some f) xs c.H=some (r,H')) (iU:SR (fo P F) c) (CL:gU c E.aF) {vs:List Value} (hl:vs.length=xs.length) (hv:∀ i (hi:i < xs.length) (hj:i < vs.length),V c xs[i] vs[i]):
 Calls P f vs.toArray c.w fun e w'=>∃ v,∃ d:Ctx,e= .returned v/\d.w=w'/\d.H=H'/\SR (fo P F) d/\cK c.H.length c d/\V d r v:=by
 unfold AR at h;dsimp only at h;split at h
 case h_2=>simp at h
 rename_i rf qA;split at h
 case isFalse=>
  unfold JL at h;split at h
  ·rename_i h9;exact EY ((b7.Uz f rf qA).1 h9) h iU hl hv
  ·split at h
   case isFalse=>cases h
   rename_i h8;exact GR ((b7.Uz f rf qA).2 h8) h iU hl hv
 rename_i hna;obtain ⟨fn,hs,hf,hc⟩:=b7.fns f rf qA;obtain ⟨code,hb,_,hres,hbody,hnt,_⟩:=j5 hc;have hfr:=El (E:=E) (rf:=rf) (fn:=fn) iU CL hl hv hnt;refine (callsIn_wide (n:=0)).1 (callsIn_of_wp_marks hf hb trivial ?_);have fin:∀ (s':St) (l:List AV),cL rf.results s'=some l->oneOf l=r->s'.H=H'->∀ d a',FR (fun b=>c.w.heap.size<=b) (fo P F) E.aF d s' a'->cK c.H.length c d->
  LeavesInM Fence.wide 0 P fn a'.tmps (fun e w'=>∃ v,∃ d:Ctx,e=Ending.returned v/\d.w=w'/\d.H=H'/\SR (fo P F) d/\cK c.H.length c d/\V d r v) a'.defers .returning d.w:=by
  rintro s' l h1 rfl rfl d0 a' AZ Ml;obtain ⟨_,Ds,m1,m2,m3⟩:=AZ.df;rw [m2];refine mP Ds d0.w m1 (fun D hD=>(m3 D hD).2) fun w' hs hk=>?_
  have aU:cK c.H.length c { d0 with w:=w' }:=hs.oQ Ml fun b hb=>(hk b).elim id fun hD=>by have:=(m3 b hD).1;omega
  have YX:=hs.hr AZ.sr.hr;have YQ:TR { d0 with w:=w' } s'.tmps a'.tmps:=⟨AZ.tr.1,fun i hi hj=>hs.V (AZ.tr.2 i hi hj)⟩;obtain ⟨v,e1,e2⟩:=At (P:=P) (c:={ d0 with w:=w' }) YX YQ AZ.hH hres h1;exact ⟨v,e1,v,{ d0 with w:=w' },rfl,rfl,AZ.hH,⟨YX,AZ.sr.hO,fun b hb=>by rw [show ({ d0 with w:=w' }:Ctx).w=w' from rfl,hs.size];exact AZ.sr.hF b hb,AZ.sr.eF,hs.x AZ.sr.x⟩,aU,e2⟩
 split at h
 ·simp at h
 ·rename_i e s' hne hex;split at h
  case h_2=>simp at h
  rename_i l hl';simp only [za2,za4] at h;rw [hbody] at hex;refine fP hs code none (.inl rfl) _ F c c.H.length _ e s' _ hfr (za7 _) hex _ fun d a' hd aU=>?_
  cases e with
  | exit id=>exact (hne id rfl).elim
  | normal=>exact fin s' l hl' h.1 h.2 d a' hd aU
  | ret=>exact fin s' l hl' h.1 h.2 d a' hd aU
 ·simp at h
theorem Kj {H:List Obj} {a b c d:Nat}:∀ {n:Nat} {x:AV},pk n H x=some (.aJ a b c d)->False
 | 0,x,h=>by
  unfold pk at h;split at h
  ·rename_i hr;injection h with h;subst h
   simp [AV.eN,AV.bD] at hr
  ·simp at h
 | n+1,x,h=>by
  unfold pk at h;split at h
  ·rename_i hr;injection h with h;subst h
   simp [AV.eN,AV.bD] at hr
  ·split at h<;>(try (simp at h;done))<;>(repeat' split at h)<;>(try (simp at h;done));injection h with h
   unfold sF at h
   (repeat' split at h)<;>simp at h
theorem GW {H:List Obj} {x:AV} {a b c d:Nat} {l:List AV} (h:pack H x=some (.aY (.aJ a b c d::l))):False:=by
 unfold pack pk at h;split at h
 ·rename_i hr;injection h with h;subst h
  simp [AV.eN,AV.bD,AV.aR] at hr
 ·split at h
  case h_4=>
   rename_i cs hc;split at h
   case h_2=>simp at h
   rename_i l' hm;injection h with h
   injection h with h
   subst h
   cases cs with
   | nil=>simp [ey] at hm
   | cons y ys=>
    rw [ey] at hm;split at hm
    case h_2=>simp at hm
    rename_i z zs hz _;simp only [za2,zaL] at hm;obtain ⟨rfl,_⟩:=hm;exact Kj hz
  all_goals (try (simp at h;done))<;>(repeat' split at h)<;>(try (simp at h;done))
  injection h with h
  unfold sF at h
  (repeat' split at h)<;>simp at h
theorem GX {F:Fo} {c:Ctx} (iU:SR F c) (w':World) (hsz:c.w.heap.size<=w'.heap.size) (KI:cZ c.w w') (hkeep:∀ b,b < c.w.heap.size->w'.heap[b]?=c.w.heap[b]?):
 SR F { c with w:=w' }/\(∀ x v,V c x v->V { c with w:=w' } x v)/\∀ n,cK n c { c with w:=w' }:=by
 have hlt:∀ b,(c.w.heap[b]?).isSome->b < c.w.heap.size:=by
  intro b hs;rcases zak b c.w.heap.size with e | e
  ·exact e
  ·rw [zan e] at hs;simp at hs
 have hV:∀ x v,V c x v->V { c with w:=w' } x v:=fun x v hx=>
  V.mono (c:=c) (d:={ c with w:=w' }) (fun b hb hs=>⟨hkeep b (hlt b hs),hb⟩) (fun _ _ _ _ _ h=>h) (fun _ _ _ _ _ h=>h) (fun _ _ _ _ _ _ h=>h) (fun _ _ h=>h) hx
 refine ⟨⟨⟨?_,iU.hr.inj⟩,iU.hO,fun b hf=>zb9 (iU.hF b hf) hsz,iU.eF,iU.x.keep (fun id o h1 h2=>⟨h1,rfl,hkeep _ (iU.o8 h1 h2).1⟩) hV⟩,hV,fun n=>⟨hsz,fun b hb _ _=>hkeep b hb,fun x v _ hx=>hV x v hx,fun b ho=> .inl ho,fun h=>h,KI,fun b hb=> .inl hb⟩⟩;intro id nl sz es h1 h2;obtain ⟨cells,elem,g1,g2,g3,g4,g5⟩:=iU.hr.back id nl sz es h1 h2;have hb:c.ι id < c.w.heap.size:=hlt _ (by rw [g1];rfl);refine ⟨cells,elem,by rw [hkeep _ hb];exact g1,g2,g3,g4,fun i hi=>⟨(g5 i hi).1,fun j hj=>?_⟩⟩;obtain ⟨u,hu,YY⟩:=(g5 i hi).2 j hj;exact ⟨u,hu,hV _ _ YY⟩
theorem Au:∀ {l:List AV},AV.jF l=true->∀ i (hi:i < l.length),l[i].flat=true
 | [],_,i,hi=>by simp at hi
 | x::l,h,i,hi=>by
  simp only [AV.jF,za0] at h
  cases i with
  | zero=>exact h.1
  | succ i=>exact Au h.2 i (by simpa using hi)
theorem PD (b7:iH P E) (fP:∀ hs code,AQ P E ex (comp P hs code) code) {f pl:Nat} {xs:List AV} {r:AV} {H':List Obj} {F:Nat->Prop} {c:Ctx}
 (h:mkObj (m6 E.fns ex) f xs pl c.H=some (r,H')) (dg:Room c.H pl) (iU:SR (fo P F) c) (CL:gU c E.aF) {vs:List Value} (hl:vs.length=xs.length)
 (hv:∀ i (hi:i < xs.length) (hj:i < vs.length),V c xs[i] vs[i]):
 Calls P f vs.toArray c.w fun e w'=>∃ v,∃ d:Ctx,e= .returned v/\d.w=w'/\d.H=H'/\SR (fo P F) d/\(∀ x v,V c x v->V d x v)/\(∀ n,cK n c d)/\V d r v:=by
 unfold mkObj at h;split at h
 case h_2=>simp at h
 rename_i ys hys;split at h
 case h_2=>simp at h
 rename_i tsz y hcs;split at h
 case isFalse=>simp at h
 rename_i Dc;have YZ:=kR hys;obtain ⟨u,H2,hrun,hres⟩:∃ u H2,AR E.fns ex (some f) ys []=some (u,H2)/\qU H2 u=some (.aY [.aJ 0 0 tsz 0,y]):=by
  unfold m6 at hcs;split at hcs
  case h_2=>simp at hcs
  rename_i rf qA;split at hcs
  ·rename_i hlen;split at hcs
   ·simp at hcs
   ·split at hcs
    case h_2=>simp at hcs
    rename_i hr;exact (GW hcs).elim
   ·simp at hcs
  ·unfold YG at hcs;split at hcs
   case h_2=>simp at hcs
   rename_i as heq;injection heq with _ heq
   subst heq;split at hcs
   case isFalse=>simp at hcs
   rename_i hlen;split at hcs
   ·simp at hcs
   ·rename_i e s' hne hex;split at hcs
    case h_2=>simp at hcs
    rename_i u hres;refine ⟨u,s'.H,?_,hcs⟩;unfold AR;dsimp only;rw [qA];dsimp only;rw [if_pos hlen];simp only [List.length_nil];rw [hex]
    cases e with
    | exit i=>exact (hne i rfl).elim
    | normal=>dsimp only;rw [hres];rfl
    | ret=>dsimp only;rw [hres];rfl
   ·simp at hcs
 have hno:∀ b,¬ bz ([]:List Obj) c.ι b:=by rintro b ⟨id,nl,sz,es,h1,_⟩;simp at h1
 have VM:∀ b,c.O b->b < c.w.heap.size:=by
  intro b hb;rcases (iU.hO b).1 hb with h1 | ⟨id,nl,sz,es,h1,h2,h3⟩
  ·exact iU.hF b h1
  ·obtain ⟨cells,elem,g1,_⟩:=iU.hr.back id nl sz es h1 h2;rw [h3] at g1;obtain ⟨h4,_⟩:=zaX.1 g1;exact h4
 obtain ⟨O0,hO0,UN,JC,YI,Dc⟩:∃ O0:Nat->Prop,(∀ b,O0 b->b < c.w.heap.size)/\(∀ x v,x.bD 0=true->V c x v->V ⟨c.w,O0,c.ι,c.K,[]⟩ x v)/\
  (∀ i (hi:i < ys.length) (hj:i < vs.length),V ⟨c.w,O0,c.ι,c.K,[]⟩ ys[i] vs[i])/\vs.length=ys.length/\(O0=c.O\/wm y=true):=by
  by_cases hfree:AV.aR 0 xs=true
  ·have hyx:=DB c.H xs ys hfree YZ;subst hyx;have UN:∀ x v,x.bD 0=true->V c x v->V ⟨c.w,c.O,c.ι,c.K,[]⟩ x v:=fun x v hb hx=>
    V.monoB (c:=c) (d:=⟨c.w,c.O,c.ι,c.K,[]⟩) 0 (fun b hb _=>⟨rfl,hb⟩) (fun _ _ _ _ _ h=>by omega) (fun _ _ _ _ _ h=>by omega) (fun _ _ _ _ _ _ h=>by omega) (fun _ _ h=>by omega) hx hb
   exact ⟨c.O,VM,UN,fun i hi hj=>UN _ _ (cJ hfree i hi) (hv i hi hj),hl,.inl rfl⟩
  ·have hfl:wm y=true:=by
    cases hb:AV.aR 0 xs with
    | true=>exact (hfree hb).elim
    | false=>rw [hb] at Dc;simpa using Dc
   have Dd:CS c ⟨c.w,fun _=>False,c.ι,c.K,[]⟩:=⟨rfl,fun b hb=>hb.elim,fun b _ hb=>hb⟩;obtain ⟨e1,e2,e3⟩:=Ix iU.hr Dd xs ys vs hl hv YZ;exact ⟨fun _=>False,fun b hb=>hb.elim,fun x v hb hx=>Dd.free hb hx,e2,by omega,.inr hfl⟩
 let c0:Ctx:=⟨c.w,O0,c.ι,c.K,[]⟩;have Ly:SR (fo P O0) c0:=
  ⟨⟨fun id nl sz es h1=>by simp [c0] at h1,fun id id' _ _ _ _ _ _ h1=>by simp [c0] at h1⟩,fun b=>⟨fun h=> .inl h,fun h=>h.elim (fun h=>h) (fun h=>(hno b h).elim)⟩,hO0,fun b h=>(hno b h).elim,.nil rfl⟩
 have aeB:gU c0 E.aF:=fun g=>UN _ _ (by simp only [AV.bD]) (CL g)
 refine (wP b7 fP (c:=c0) hrun Ly aeB YI JC).mono ?_;rintro e w' ⟨v,d0,rfl,rfl,hdH,Ri,aU,hVv⟩;have hkeep:∀ b,b < c.w.heap.size->d0.w.heap[b]?=c.w.heap[b]?:=fun b hb=>aU.keep b hb (hno b) (by rintro ⟨id,o,h1,_⟩;simp [c0] at h1)
 have qC:∀ o:Obj,o≠ .ew->c.H[pl]?≠some o:=by
  intro o ho e;rcases dg with h1 | h1
  ·rw [h1] at e;injection e with e;exact ho e.symm
  ·rw [h1] at e;simp at e
 have put:∀ (j:Nat) (fl:Fl) (sz:Nat) (es:List (List AV)),d0.H[j]?=some (.live fl sz es)->¬(fl= .nil/\es=[])->AV.bO 0 es=true->(O0=c.O\/es.all AV.jF=true)->
  ∃ d:Ctx,d.w=d0.w/\d.H=putObj c.H pl (.live .norm sz es)/\SR (fo P F) d/\(∀ x v,V c x v->V d x v)/\(∀ n,cK n c d)/\d.ι pl=d0.ι j/\d.K pl=d0.K j:=by
  intro j fl sz es Hx hne JB hmd;obtain ⟨cells,elem,g1,g2,g3,g4,g5⟩:=Ri.hr.back j _ _ _ Hx hne;have hown:bz d0.H d0.ι (d0.ι j):=⟨j,_,_,_,Hx,hne,rfl⟩;have hge:c.w.heap.size<=d0.ι j:=(aU.owned _ hown).elim (fun h=>(hno _ h).elim) fun h=>h
  exact Z4 iU pl (d0.ι j) (d0.K j) .norm sz es cells elem d0.w (putObj c.H pl (.live .norm sz es))
   (wA _) (cB dg _) (fun j hj=> .inl (lP dg _ j hj)) (qC _ (by simp)) (Mm qC) (fun bL br bt hs=>(qC _ (by simp) hs).elim) (by simp) aU.same aU.size
   (fun b hb _=>hkeep b hb) g1 (.inl hge) (fun j' bL br bt _ hs hbk he=>by
    obtain ⟨cl,el,q1,_⟩:=iU.hr.back j' _ _ _ hs hbk;obtain ⟨h4,_⟩:=zaX.1 q1;omega) g2 g3 (fun i hi=>⟨(g5 i hi).1,fun q hq=>by
     obtain ⟨u,hu,Qe⟩:=(g5 i hi).2 q hq;refine ⟨u,hu,.inr fun d hdw hdO=>?_⟩;rcases hmd with rfl | hmd
     case inr=>exact MN Qe (Au (zaf.1 hmd _ (zax hi)) q hq)
     have hb0:(es[i][q]).bD 0=true:=cJ (iu JB i hi) q hq;refine V.monoB (c:=d0) (d:=d) 0 (fun b hb _=>⟨by rw [hdw],fun hd=>hb ?_⟩) (fun _ _ _ _ _ h=>by omega) (fun _ _ _ _ _ h=>by omega) (fun _ _ _ _ _ _ h=>by omega) (fun _ _ h=>by omega) Qe hb0;rcases hdO b hd with e | e
     ·exact (Ri.hO b).2 (.inl e)
     ·rw [e];exact (Ri.hO _).2 (.inr hown)⟩)
 have Ja:v= .slice none 0 0->r= .bF->H'=c.H->∃ v',∃ d:Ctx,Ending.returned v= .returned v'/\d.w=d0.w/\d.H=H'/\SR (fo P F) d/\(∀ x v,V c x v->V d x v)/\(∀ n,cK n c d)/\V d r v':=by
  rintro rfl rfl rfl;obtain ⟨b1,b2,b3⟩:=GX iU d0.w aU.size aU.same hkeep;exact ⟨_,{ c with w:=d0.w },rfl,rfl,rfl,b1,b2,b3,.bF⟩
 unfold qU at hres;split at hres
 ·rename_i j;split at hres
  case h_2=>simp at hres
  rename_i sz cs hj;split at hres
  case isFalse=>simp at hres
  rename_i hb;simp only [za2,AV.aY.injEq,zaL,AV.aJ.injEq,and_true,true_and] at hres;obtain ⟨rfl,rfl⟩:=hres;simp only [wj,za2,za4] at h;obtain ⟨rfl,rfl⟩:=h;have Hx:d0.H[j]?=some (.live .norm sz [cs]):=by rw [hdH];exact hj
  obtain ⟨cells,elem,g1,g2,g3,g4,g5⟩:=Ri.hr.back j _ _ _ Hx (by simp);have hsz:cs.length=sz:=(g5 0 (by simp)).1;subst hsz;obtain ⟨d,k1,k2,k3,k4,k5,k6,k7⟩:=put j .norm cs.length [cs] Hx (by simp) (by simp [AV.bO,hb]) (Dc.imp id fun h=>by simpa [wm] using h);refine ⟨v,d,rfl,k1,k2,k3,k4,k5,?_⟩
  cases hVv with
  | aJ _ _ _ _ _ hp=>
   obtain ⟨_,a,rfl,hsp,hp⟩:=hp;have hp2:=(hp _ _ _ Hx).2 (by simp);refine .aJ _ _ _ _ _ ⟨by rw [Has,k2];exact ⟨pS dg _,by rw [cB dg];simp⟩,a,rfl,hsp,fun nl sz es hs=>?_⟩;rw [k2,cB dg] at hs;simp at hs;obtain ⟨_,rfl,rfl⟩:=hs;exact ⟨by simp,fun _=>by rw [hp2,k6]⟩
 ·simp only [za2,AV.aY.injEq,zaL,AV.aJ.injEq,and_true,true_and] at hres;obtain ⟨rfl,rfl⟩:=hres;simp only [wj,za2,za4] at h;obtain ⟨rfl,rfl⟩:=h
  cases hVv;exact Ja rfl rfl rfl
 ·rename_i j ext off len;split at hres
  case h_2=>simp at hres
  rename_i fl sz es hj;split at hres
  case isFalse=>simp at hres
  rename_i hc;obtain ⟨rfl,rfl,rfl⟩:=hc;have Hx:d0.H[j]?=some (.live fl sz es):=by rw [hdH];exact hj
  have slice:¬(fl= .nil/\es=[])->AV.bO 0 es=true->tsz=sz->y= .ro es->∃ v',∃ d:Ctx,Ending.returned v= .returned v'/\d.w=d0.w/\d.H=H'/\SR (fo P F) d/\(∀ x v,V c x v->V d x v)/\(∀ n,cK n c d)/\V d r v':=by
   rintro hne JB rfl rfl;simp only [wj,za2,za4] at h;obtain ⟨rfl,rfl⟩:=h;obtain ⟨d,k1,k2,k3,k4,k5,k6,k7⟩:=put j fl tsz es Hx hne JB (Dc.imp id fun h=>by simpa only [wm] using h);refine ⟨v,d,rfl,k1,k2,k3,k4,k5,?_⟩
   cases hVv with
   | own _ _ _ _ _ ho=>
    obtain ⟨_,⟨a,cap,rfl⟩,ho⟩:=ho;obtain ⟨_,ho⟩:=ho _ _ _ Hx;obtain ⟨_,ho⟩:=ho rfl;rcases ho with ⟨q1,q2,_⟩ | ⟨_,cap',q1,q2⟩
    ·exact (hne ⟨q1,q2⟩).elim
    ·injection q1 with e1 e2 e3
     subst e1;subst e3;refine .own _ _ _ _ _ ⟨by rw [Has,k2];exact ⟨pS dg _,by rw [cB dg];simp⟩,⟨_,_,rfl⟩,fun nl br bt hs=>?_⟩;rw [k2,cB dg] at hs;simp at hs;obtain ⟨rfl,rfl,rfl⟩:=hs;exact ⟨by simp,fun _=>⟨by simp,.inr ⟨by simp,cap,by rw [k6],by rw [k7,<-q2]⟩⟩⟩
  split at hres
  ·split at hres
   ·rename_i hfl;subst hfl;simp only [za2,AV.aY.injEq,zaL,AV.aJ.injEq,and_true,true_and] at hres;obtain ⟨rfl,rfl⟩:=hres;simp only [wj,za2,za4] at h;obtain ⟨rfl,rfl⟩:=h
    cases hVv with
    | own _ _ _ _ _ ho=>
     obtain ⟨_,_,ho⟩:=ho;obtain ⟨_,ho⟩:=(ho _ _ _ Hx).2 rfl;rcases ho with ⟨_,_,q⟩ | ⟨q,_⟩
     ·exact Ja q rfl rfl
     ·exact (q ⟨rfl,rfl⟩).elim
   ·split at hres
    case isFalse=>simp at hres
    rename_i hfl;subst hfl;simp only [za2,AV.aY.injEq,zaL,AV.aJ.injEq,and_true,true_and] at hres;exact slice (by simp) rfl hres.1.symm hres.2.symm
  ·split at hres
   case isFalse=>simp at hres
   rename_i hc;simp only [za2,AV.aY.injEq,zaL,AV.aJ.injEq,and_true,true_and] at hres;exact slice (by simp) hc.2 hres.1.symm hres.2.symm
 ·simp at hres
theorem GY (b7:iH P E) (fP:∀ hs code,AQ P E ex (comp P hs code) code) {hp:Nat->Bool} {cH:CH} (Qu:cH=AR E.fns ex\/cH=kY) {f:Nat} {xs:List AV} {r:AV} {H':List Obj} {F:Nat->Prop} {c:Ctx}
 (h:bJ hp (m6 E.fns ex) cH f xs c.H=some (r,H')) (iU:SR (fo P F) c) (CL:gU c E.aF) {vs:List Value} (hl:vs.length=xs.length)
 (hv:∀ i (hi:i < xs.length) (hj:i < vs.length),V c xs[i] vs[i]):
 Calls P f vs.toArray c.w fun e w'=>∃ v,∃ d:Ctx,e= .returned v/\d.w=w'/\d.H=H'/\SR (fo P F) d/\cK c.H.length c d/\V d r v:=by
 have Ud:cH (some f) xs c.H=some (r,H')->Calls P f vs.toArray c.w fun e w'=>∃ v,∃ d:Ctx,e= .returned v/\d.w=w'/\d.H=H'/\SR (fo P F) d/\cK c.H.length c d/\V d r v:=fun h'=>by
  rcases Qu with rfl | rfl
  ·exact wP b7 fP h' iU CL hl hv
  ·simp [kY] at h'
 unfold bJ at h;split at h
 ·exact Ud h
 ·split at h
  case h_2=>exact Ud h
  rename_i ys hys;split at h
  case h_2=>simp at h
  rename_i r' hr';split at h
  case isFalse=>simp at h
  rename_i Ue;simp only [za2,za4] at h;obtain ⟨rfl,rfl⟩:=h;have back:∀ w':World,(c.w.heap.size<=w'.heap.size/\cZ c.w w')->(∀ b,b < c.w.heap.size->w'.heap[b]?=c.w.heap[b]?)->
   SR (fo P F) { c with w:=w' }/\cK c.H.length c { c with w:=w' }:=by
   rintro w' ⟨hsz,KI⟩ hkeep;have hlt:∀ b,(c.w.heap[b]?).isSome->b < c.w.heap.size:=by
    intro b hs;rcases zak b c.w.heap.size with e | e
    ·exact e
    ·rw [zan e] at hs;simp at hs
   have hV:∀ x v,V c x v->V { c with w:=w' } x v:=fun x v hx=>
    V.mono (c:=c) (d:={ c with w:=w' }) (fun b hb hs=>⟨hkeep b (hlt b hs),hb⟩) (fun _ _ _ _ _ h=>h) (fun _ _ _ _ _ h=>h) (fun _ _ _ _ _ _ h=>h) (fun _ _ h=>h) hx
   refine ⟨⟨⟨?_,iU.hr.inj⟩,iU.hO,fun b hf=>zb9 (iU.hF b hf) hsz,iU.eF,iU.x.keep (fun id o h1 h2=>⟨h1,rfl,hkeep _ (iU.o8 h1 h2).1⟩) hV⟩,⟨hsz,fun b hb _ _=>hkeep b hb,fun x v _ hx=>hV x v hx,fun b ho=> .inl ho,fun h=>h,KI,fun b hb=> .inl hb⟩⟩;intro id nl sz es h1 h2;obtain ⟨cells,elem,g1,g2,g3,g4,g5⟩:=iU.hr.back id nl sz es h1 h2;have hb:c.ι id < c.w.heap.size:=hlt _ (by rw [g1];rfl);refine ⟨cells,elem,by rw [hkeep _ hb];exact g1,g2,g3,g4,fun i hi=>⟨(g5 i hi).1,fun j hj=>?_⟩⟩;obtain ⟨u,hu,YY⟩:=(g5 i hi).2 j hj;exact ⟨u,hu,hV _ _ YY⟩
  have glb:∀ d:Ctx,(∀ x v,x.bD 0=true->V c x v->V d x v)->gU d E.aF:=fun d hd g=>hd _ _ (by simp only [AV.bD]) (CL g)
  by_cases hfree:AV.aR 0 xs=true
  ·
   have hyx:=DB c.H xs ys hfree hys;subst hyx;let c0:Ctx:=⟨c.w,c.O,c.ι,c.K,[]⟩;have hno:∀ b,¬ bz ([]:List Obj) c.ι b:=by rintro b ⟨id,nl,sz,es,h1,_⟩;simp at h1
   have UN:∀ x v,x.bD 0=true->V c x v->V c0 x v:=fun x v hb hx=>
    V.monoB (c:=c) (d:=c0) 0 (fun b hb _=>⟨rfl,hb⟩) (fun _ _ _ _ _ h=>by omega) (fun _ _ _ _ _ h=>by omega) (fun _ _ _ _ _ _ h=>by omega) (fun _ _ h=>by omega) hx hb
   have Ly:SR (fo P c.O) c0:=by
    refine ⟨⟨fun id nl sz es h1=>by simp [c0] at h1,fun id id' _ _ _ _ _ _ h1=>by simp [c0] at h1⟩,fun b=>⟨fun h=> .inl h,fun h=>h.elim (fun h=>h) (fun h=>(hno b h).elim)⟩,fun b hb=>?_,fun b h=>(hno b h).elim,.nil rfl⟩;rcases (iU.hO b).1 hb with h1 | ⟨id,nl,sz,es,h1,h2,h3⟩
    ·exact iU.hF b h1
    ·obtain ⟨cells,elem,g1,_⟩:=iU.hr.back id nl sz es h1 h2;rw [h3] at g1;rcases zak b c.w.heap.size with e | e
     ·exact e
     ·rw [zan e] at g1;simp at g1
   refine (xM b7 fP hr' Ly rfl (glb c0 UN) hl (fun i hi hj=>UN _ _ (cJ hfree i hi) (hv i hi hj))).mono ?_;rintro e w' ⟨v,rfl,hsz,hkeep,_,hres⟩;obtain ⟨b1,b2⟩:=back w' hsz hkeep;exact ⟨v,{ c with w:=w' },rfl,rfl,rfl,b1,b2,hres _ rfl fun b hb=>hb⟩
  ·
   have hfl:r'.flat=true:=by
    cases hb:AV.aR 0 xs with
    | true=>exact (hfree hb).elim
    | false=>rw [hb] at Ue;simpa using Ue
   let c0:Ctx:=⟨c.w,fun _=>False,c.ι,c.K,[]⟩;have hno:∀ b,¬ bz ([]:List Obj) c.ι b:=by rintro b ⟨id,nl,sz,es,h1,_⟩;simp at h1
   have Dd:CS c c0:=⟨rfl,fun b hb=>hb.elim,fun b _ hb=>hb⟩;have Ly:SR (fo P fun _=>False) c0:=⟨⟨fun id nl sz es h1=>by simp [c0] at h1,fun id id' _ _ _ _ _ _ h1=>by simp [c0] at h1⟩,fun b=>⟨fun h=>h.elim,fun h=>h.elim (fun h=>h) (fun h=>(hno b h).elim)⟩,fun b hb=>hb.elim,fun b h=>(hno b h).elim,.nil rfl⟩;obtain ⟨e1,e2,e3⟩:=Ix iU.hr Dd xs ys vs hl hv hys;refine (xM b7 fP hr' Ly rfl (glb c0 fun x v hb hx=>Dd.free hb hx) (by omega) e2).mono ?_;rintro e w' ⟨v,rfl,hsz,hkeep,_,hres⟩;obtain ⟨b1,b2⟩:=back w' hsz hkeep;exact ⟨v,{ c with w:=w' },rfl,rfl,rfl,b1,b2,MN (hres { c0 with w:=w' } rfl fun b hb=>hb) hfl⟩
end
end Go.Am
end
section
namespace Go.Am
section
variable {P:Program} {E:Env} {ex:EX}
theorem I2 {c:Ctx}:∀ (ps:List Nat) (xs:List AV) (vs:List Value) {t:List AV} {ts:Array Value},TR c t ts->xs.length=ps.length->vs.length=ps.length->(∀ i (hi:i < xs.length) (hj:i < vs.length),V c xs[i] vs[i])->
 TR c (uS ps xs t) ((ps.zip vs).foldl (fun t (p,v)=>t.setIfInBounds p v) ts)
 | [],[],[],_,_,h,_,_,_=>by simpa [uS] using h
 | p::ps,x::xs,v::vs,t,ts,h,h1,h2,hv=>by
  rw [uS,List.zip_cons_cons,List.foldl_cons];refine I2 ps xs vs ?_ (by simpa using h1) (by simpa using h2) (fun i hi hj=>hv (i+1) (by simpa using hi) (by simpa using hj));refine ⟨by simp [h.1],fun i hi hj=>?_⟩;have hx:=hv 0 (by simp) (by simp);by_cases hd:p=i
  ·subst hd;have e1:(t.set p x)[p]'hi=x:=by simp
   have e2:(ts.setIfInBounds p v)[p]'hj=v:=by simp
   rw [e1,e2];exact hx
  ·have e1:(t.set p x)[i]'hi=t[i]'(by simpa using hi):=by rw [zbw hd]
   have hj':i < (ts.setIfInBounds p v).size:=hj;have e2:(ts.setIfInBounds p v)[i]'hj'=ts[i]'(by simpa using hj'):=by rw [Array.getElem_setIfInBounds_ne (by simpa using hj') hd]
   show V c ((t.set p x)[i]'hi) ((ts.setIfInBounds p v)[i]'hj');rw [e1,e2];exact h.2 i _ _
 | [],_::_,_,_,_,_,h1,_,_=>by simp at h1
 | [],[],_::_,_,_,_,_,h2,_=>by simp at h2
 | _::_,[],_,_,_,_,h1,_,_=>by simp at h1
 | _::_,_::_,[],_,_,_,_,h2,_=>by simp at h2
theorem uy {F:Fo} {c:Ctx} (h:SR F c) {x y:Ls} {l:Nat} {H':List Obj} (hs:jI x y c.H l=some H'):
 ∃ r:Loop,c.w.heap[c.ι l]?=some (.loop r)/\LsR x r.state r.pending/\∀ r':Loop,r'.tmps=r.tmps->r'.params=r.params->r'.assign=r.assign->r'.body=r.body->LsR y r'.state r'.pending->
  ∃ d:Ctx,d.w=c.w.putObj (c.ι l) (.loop r')/\d.H=H'/\dR F c d/\d.ι l=c.ι l:=by
 unfold jI at hs;split at hs
 case h_2=>simp at hs
 rename_i s t ps b6 body hid;split at hs
 case isFalse=>simp at hs
 rename_i hsx;subst hsx;injection hs with hs;subst hs
 obtain ⟨wo,g1,r,rfl,g2,g3,g4,g5,g6⟩:=h.x.xr l _ hid rfl;refine ⟨r,g1,g6,fun r' e1 e2 e3 e4 e5=>?_⟩;exact U4 h hid rfl (.lp y t ps b6 body) rfl (.loop r') _ rfl (by simp) fun d hv=>⟨r',rfl,by rw [e1];exact g2.hY hv,by rw [e2];exact g3,by rw [e3];exact g4,by rw [e4];exact g5,e5⟩
theorem cK.wR {n:Nat} {c d:Ctx} (h:cK n c d) {l b:Nat} (hl:l < n) (hb:SV c l b) {o:Obj} (hid:d.H[l]?=some o) (ho:o.sp=true):b=d.ι l:=by
 have:=h.vals (.fA l) (.func (.yield b) #[] #[]) (by simpa [AV.bD] using hl) (.fA l b hb)
 cases this with
 | fA _ _ hs=>exact hs.2 o hid ho
theorem Kg (b7:iH P E) (fP:∀ hs code,AQ P E ex (comp P hs code) code) {F:Nat->Prop} {c:Ctx} (iU:SR (fo P F) c) (CL:gU c E.aF) {l b:Nat} (hb:SV c l b) {xs:List AV} {vs:Array Value} (hl:vs.size=xs.length)
 (hv:∀ i (hi:i < xs.length) (hj:i < vs.size),V c xs[i] vs[i]) {v:AV} {H':List Obj} (hr:X4 ex (.fA l::xs) c.H=some (v,H')):
 ∃ fn tmps b6 body,(Instr.yield b vs).run P c.w= .ok (.round b fn tmps b6 body) c.w/\
  RoundIn Fence.wide 0 P b fn tmps b6 body c.w fun e w'=>∃ u,∃ d:Ctx,e= .returned u/\d.w=w'/\d.H=H'/\SR (fo P F) d/\cK c.H.length c d/\V d v u:=by
 unfold X4 at hr;dsimp only at hr;split at hr
 case h_2=>simp at hr
 rename_i t ps b6 body hid;split at hr
 case isFalse=>simp at hr
 rename_i hxl;split at hr
 case h_2=>simp at hr
 rename_i s1 sK;split at hr
 case h_2=>simp at hr
 rename_i H1 Hj;have Tq:l < c.H.length:=bn hid;have JB:=hb.2 _ hid rfl;obtain ⟨wo,g1,r,rfl,g2,g3,⟨hs1,Ql,ha2⟩,⟨yP,CJ,Fz⟩,g6⟩:=iU.x.xr l _ hid rfl;rw [<-JB] at g1;have adL:vs.size=r.params.size:=by rw [hl,hxl,<-g3];simp
 refine ⟨r.fn,_,r.assign,r.body,run_yield (P:=P) g1 adL,roundIn_of_wpIn trivial ?_⟩;subst Ql;subst CJ;have YQ:TR c (uS ps xs t) ((r.params.zip vs).foldl (fun t (p,v)=>t.setIfInBounds p v) r.tmps):=by
  have:=I2 (c:=c) ps xs vs.toList g2 hxl (by simp;omega) (fun i hi hj=>hv i hi (by simpa using hj));rw [<-Array.foldl_toList,Array.toList_zip,g3];exact this
 have adM:FR (fun _=>True) (fo P F) E.aF c ⟨uS ps xs t,c.H⟩ { tmps:=(r.params.zip vs).foldl (fun t (p,v)=>t.setIfInBounds p v) r.tmps,defers:=[] }:=⟨iU,YQ,rfl,Marks.nil (fun _ _=>trivial),CL⟩;refine fP hs1 r.assign (some b) (.inr ha2) (fun _=>True) _ c c.H.length _ .normal s1 _ adM (za7 _) sK _ fun d1 a1 KH XV=>?_
 have adN:=KH.hH;rw [<-adN] at Hj;obtain ⟨r1,k1,k2,k3⟩:=uy KH.sr Hj;have oS:∃ o,d1.H[l]?=some o/\o.sp=true:=by
  unfold jI at Hj;split at Hj
  ·rename_i hq;exact ⟨_,hq,rfl⟩
  ·simp at Hj
 obtain ⟨o1,Vo,ho1⟩:=oS;have ZX:b=d1.ι l:=XV.wR Tq hb Vo ho1;rw [<-ZX] at k1;refine ⟨_,run_beginRound (P:=P) k1 k2.1,?_⟩;obtain ⟨d2,q1,q2,q3,q4⟩:=k3 { r1 with state:= .busy } rfl rfl rfl rfl rfl;rw [<-ZX] at q1 q4;have adO:gU d2 E.aF:=KH.gl.oQ b7.aF (q3.2.2 0);have FC:FR (fun _=>True) (fo P F) E.aF d2 ⟨s1.tmps,H1⟩ a1:=⟨q3.1,KH.tr.hY q3.2.1,q2,KH.df.oQ KH.sr (q3.2.2 0),adO⟩;have L9:c.H.length<=d2.H.length:=(q3.2.2 _).len (XV.len (za7 _));rw [<-q1];have adP:SV d2 l b:=by
  have:=(XV.trans (q3.2.2 c.H.length)).vals (.fA l) (.func (.yield b) #[] #[]) (by simpa [AV.bD] using Tq) (.fA l b hb)
  cases this with
  | fA _ _ hs=>exact hs
 obtain ⟨e2,s2,adQ,H2,y,zo,hy,hvy,adR⟩:∃ e2 s2,ex (comp P yP r.body) c.H.length ⟨s1.tmps,H1⟩=some (e2,s2)/\∃ H2 y,jI .busy y s2.H l=some H2/\y=(match e2 with | .normal=> .ready | e=> .done e)/\v= .bool (match e2 with | .normal=>true | _=>false)/\H2=H':=by
  split at hr
  ·rename_i s2 h2;split at hr
   case h_2=>simp at hr
   rename_i H2 zo;simp only [za2,za4] at hr;exact ⟨.normal,s2,h2,H2,_,zo,rfl,hr.1.symm,hr.2⟩
  ·rename_i e2 s2 hne h2;split at hr
   case h_2=>simp at hr
   rename_i H2 zo;simp only [za2,za4] at hr
   cases e2 with
   | normal=>exact (hne rfl).elim
   | exit i=>exact ⟨.exit i,s2,h2,H2,_,zo,rfl,hr.1.symm,hr.2⟩
   | ret=>exact ⟨.ret,s2,h2,H2,_,zo,rfl,hr.1.symm,hr.2⟩
  ·simp at hr
 subst adR;refine fP yP r.body (some b) (.inr Fz) (fun _=>True) _ d2 c.H.length _ e2 s2 a1 FC L9 adQ _ fun d3 a3 hd3 hf3=>?_
 rw [<-hd3.hH] at zo;obtain ⟨r3,m1,m2,m3⟩:=uy hd3.sr zo;have oS:∃ o,d3.H[l]?=some o/\o.sp=true:=by
  unfold jI at zo;split at zo
  ·rename_i hq;exact ⟨_,hq,rfl⟩
  ·simp at zo
 obtain ⟨o3,adS,ho3⟩:=oS;have ZY:b=d3.ι l:=hf3.wR Tq adP adS ho3;rw [<-ZY] at m1;have fin:∀ jump:Option Code,LsR y (if jump.isNone then .ready else .done) jump->v= .bool jump.isNone->∃ v' w',(Instr.endRound b jump).run P d3.w= .ok v' w'/\∃ u,∃ d:Ctx,Ending.returned v'= .returned u/\d.w=w'/\d.H=H2/\SR (fo P F) d/\cK c.H.length c d/\V d v u:=by
  intro jump hst hvj;obtain ⟨d4,n1,n2,n3,_⟩:=m3 { r3 with state:=if jump.isNone then .ready else .done,pending:=jump } rfl rfl rfl rfl hst;rw [<-ZY] at n1;refine ⟨_,_,run_endRound (P:=P) jump m1,_,d4,rfl,n1,n2,n3.1,?_,by rw [hvj];exact .bool _⟩;exact ((XV.trans (q3.2.2 _)).trans hf3).trans (n3.2.2 _)
 cases e2 with
 | normal=>exact fin none (by rw [hy];exact ⟨rfl,rfl⟩) hvy
 | ret=>exact fin (some .ret) (by rw [hy];exact ⟨rfl,rfl,by simp⟩) hvy
 | exit i=>exact fin (some (.exit i)) (by rw [hy];exact ⟨rfl,rfl,by simp⟩) hvy
end
end Go.Am
end
