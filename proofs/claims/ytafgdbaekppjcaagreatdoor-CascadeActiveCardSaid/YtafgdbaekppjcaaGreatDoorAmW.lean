/- Parts of my machine and its laws, joined: AmW AmXr. No condition. -/
import Derived.Test.YtafgdbaekppjcaaGreatDoorAmU
import Derived.RangeFuncRecord
import Derived.RangeFuncIn
import Derived.RangeFuncSeq
set_option linter.unusedSectionVars false
set_option linter.unusedVariables false
set_option linter.unusedSimpArgs false
section
namespace Go.Am
structure aeN (G:Nat->Prop) (w w':World):Prop where
 size:w.heap.size<=w'.heap.size
 keep:∀ b:Nat,b < w.heap.size->¬ G b->w'.heap[b]?=w.heap[b]?
 same:dx w w'
abbrev fo (P:Program) (F:Nat->Prop):Fo:=⟨F,CR P⟩
structure iJ (P:Program) (E:Env):Prop where
 fns:∀ f rf,E.fns f=some rf->∃ fn hs,P.funcs[f]?=some fn/\zl P hs rf.nargs fn=some rf
 aJ:∀ g,AV.aT 0 (E.aJ g)=true
def sI:Ex->Exit
 | .normal=> .normal
 | .exit id=> .exit id
 | .ret=> .ret
def wd (ρ:Option Nat):Fence:={ Fence.wide with round:=ρ }
theorem wQ {ρ:Option Nat} {n:Nat} {P:Program} {f:FuncId} {args:Array Value} {w:World} {R:Ending->World->Prop} (h:Calls P f args w R):CallsIn (wd ρ) n P f args w R:=
 (callsIn_wide (n:=n)).2 h
def Av (P:Program) (E:Env) (ex:EX) (rc:RC) (code:Code):Prop:=
 ∀ (ρ:Option Nat),(ρ=none\/ni code=true)->∀ (lo:Nat->Prop) (F:Nat->Prop) (c:Ctx) (base:Nat) (s:St) (e:Ex) (s':St) (a:Act),FR lo (fo P F) E.aJ c s a->base<=c.H.length->ex rc base s=some (e,s')->
  ∀ Q:Exit->Act->World->Prop,(∀ d a',FR lo (fo P F) E.aJ d s' a'->cW base c d->Q (sI e) a' d.w)->code.wpIn (wd ρ) 0 P Q a c.w
section
variable {P:Program} {E:Env} {ex:EX}
theorem DG {F:Nat->Prop} {c:Ctx} {rf:RF} {fn:Func} (lX:SR (fo P F) c) (B4:gY c E.aJ) {xs:List AV} {vs:List Value} (hl:vs.length=xs.length)
 (hv:∀ i (hi:i < xs.length) (hj:i < vs.length),V c xs[i] vs[i]) (hnt:rf.ntmps=fn.ntmps):
 FR (fun b=>c.w.heap.size<=b) (fo P F) E.aJ c ⟨start rf xs,c.H⟩ { tmps:=vs.toArray++Array.replicate (fn.ntmps - vs.toArray.size) undef,defers:=[] }:=by
 refine ⟨lX,⟨by simp [start,hl,hnt],fun i hi hj=>?_⟩,rfl,Marks.nil (fun _ h=>h),B4⟩;simp only [start];by_cases h:i < xs.length
 ·rw [zaM h,Array.getElem_append_left (by simp;omega)];simpa using hv i h (by omega)
 ·rw [zaP (by omega),Array.getElem_append_right (by simp;omega)];simp only [List.getElem_replicate,Array.getElem_replicate];exact .any _
theorem z9 {c:Ctx} {s:St} {a:Act} {fn:Func} (hr:HR c) (ht0:TR c s.tmps a.tmps) (hHs:c.H=s.H) {rs:List (Sum Nat (Nat×Nat×Bool))} (hc:jl P fn.results.toList=some rs)
 {l:List AV} (hl:cQ rs s=some l):∃ v,(results fn a.tmps).run P c.w= .ok v c.w/\V c (oneOf l) v:=by
 have slot:∀ t,V c (s.tmps.getD t .any) (a.tmps.getD t undef):=by
  intro t;by_cases ht:t < s.tmps.length
  ·have ht':t < a.tmps.size:=by rw [ht0.1];exact ht
   rw [zbf,za2 ht,zar,zb9,zaj ht',zar];exact ht0.2 t ht ht'
  ·rw [zbf,zan (Nat.le_of_not_lt ht),Option.getD_none];exact .any _
 have key:∀ (xs:List ResultVar) (rs:List (Sum Nat (Nat×Nat×Bool))) (l:List AV),jl P xs=some rs->cQ rs s=some l->
  ∃ vs:List Value,(xs.mapM (fun r:ResultVar=>(match r with | .tmp t=>pure (a.tmps.getD t undef) | .cell q t=>do loadVar t (<- asAddr (a.tmps.getD q undef)):Sem Value))).run P c.w= .ok vs c.w/\
   vs.length=l.length/\∀ i (hi:i < l.length) (hj:i < vs.length),V c l[i] vs[i]:=by
  intro xs;induction xs with
  | nil=>intro rs l h1 h2;simp [jl] at h1;subst h1;simp [cQ] at h2;subst h2;exact ⟨[],by simp,rfl,by simp⟩
  | cons r xs ih=>
   intro rs l h1 h2
   cases r with
   | tmp t=>
    simp only [jl] at h1;split at h1
    case h_2=>simp at h1
    rename_i rs' h3;injection h1 with h1;subst h1
    simp only [cQ] at h2;split at h2
    case h_2=>simp at h2
    rename_i l' h4;injection h2 with h2;subst h2
    obtain ⟨vs,e1,e2,e3⟩:=ih rs' l' h3 h4;refine ⟨a.tmps.getD t undef::vs,?_,by simp [e2],fun i hi hj=>?_⟩
    ·rw [List.mapM_cons];simp only [Sem.run_bind,Sem.run_pure,Result.andThen_ok];rw [e1];rfl
    ·cases i with
     | zero=>exact slot t
     | succ i=>exact e3 i (zb6 hi) (zb6 hj)
   | cell q t=>
    simp only [jl] at h1;split at h1
    case h_2=>simp at h1
    rename_i n ag rs' hn ha h3;injection h1 with h1;subst h1
    simp only [cQ] at h2;split at h2
    case h_2=>simp at h2
    rename_i v l' hv h4;injection h2 with h2;subst h2
    obtain ⟨vs,e1,e2,e3⟩:=ih rs' l' h3 h4;rw [<-hHs] at hv;obtain ⟨u,hu,hV⟩:=Lm (P:=P) hr hn ha (slot q) hv;have adO:∃ ad,a.tmps.getD q undef= .pointer (some ad):=by
     have hs:=slot q;revert hs hv;generalize s.tmps.getD q .any=x;generalize a.tmps.getD q undef=xv;intro hv hs;unfold loadAt at hv;split at hv
     ·cases hs;exact ⟨_,rfl⟩
     ·cases hs with
      | aA _ _ _ _ _ hp=>obtain ⟨_,ad,rfl,_⟩:=hp;exact ⟨_,rfl⟩
     ·simp at hv
    obtain ⟨ad,had⟩:=adO;rw [had] at hu;refine ⟨u::vs,?_,by simp [e2],fun i hi hj=>?_⟩
    ·rw [List.mapM_cons];have has:(asAddr (a.tmps.getD q undef)).run P c.w= .ok ad c.w:=by rw [had];rfl
     simp only [Sem.run_bind,has,Result.andThen_ok];simp only [Instr.loadAt,Instr.sureAddr,Sem.run_bind,Sem.run_pure,Result.andThen_ok] at hu;rw [hu];simp only [Result.andThen_ok];rw [e1];rfl
    ·cases i with
     | zero=>exact hV
     | succ i=>exact e3 i (zb6 hi) (zb6 hj)
 obtain ⟨vs,e1,e2,e3⟩:=key fn.results.toList rs l hc hl;refine ⟨if h:vs.toArray.size=1 then vs.toArray[0] else .tuple vs.toArray,?_,?_⟩
 ·have Sz:∀ g:ResultVar->Sem Value,(∀ r,g r=(match r with | .tmp t=>pure (a.tmps.getD t undef) | .cell q t=>do loadVar t (<- asAddr (a.tmps.getD q undef))))->
   (fn.results.toList.mapM g).run P c.w= .ok vs c.w:=fun g hg=>by rw [funext hg];exact e1
  unfold results;rw [Array.mapM_eq_mapM_toList];simp only [Sem.run_bind,Sem.run_map];rw [Sz _ (fun r=>by cases r<;>rfl)];rfl
 ·match l,vs,e2,e3 with
  | [x],[v],_,e3=>simpa [oneOf] using e3 0 (by simp) (by simp)
  | [],[],_,_=>exact .bl [] #[] rfl fun i hi=>by simp at hi
  | x::y::l,v::u::vs,e2,e3=>
   have:oneOf (x::y::l)= .bl (x::y::l):=rfl;rw [this,dif_neg (by simp)];exact .bl _ _ (by simpa using e2) fun i hi hj=>e3 i hi (by simpa using hj)
theorem jV {hs:List (Nat×Hint)} {n:Nat} {fn:Func} {rf:RF} (h:zl P hs n fn=some rf):
 ∃ code,fn.body=some code/\(fn.name== "runtime.NumGoroutine")=false/\jl P fn.results.toList=some rf.results/\rf.body=comp P hs code/\rf.ntmps=fn.ntmps/\rf.nargs=n:=by
 unfold zl at h;split at h
 case h_2=>simp at h
 rename_i code rs hb hr;split at h
 ·simp at h
 ·rename_i hn;injection h with h;subst h
  exact ⟨code,hb,by simpa using hn,hr,rfl,rfl,rfl⟩
structure AS (w w':World):Prop where
 size:w'.heap.size=w.heap.size
 same:dx w w'
 keep:∀ b:Nat,w'.heap[b]?=w.heap[b]?\/∃ x:Option (List Deferred),w.heap[b]?=some (Go.Obj.deferred x)
theorem dx.putObj {w:World} {D:Nat} {o o':Go.Obj} (h:w.heap[D]?=some o) (h1:∀ cells elem q,o≠Go.Obj.cells cells elem q) (h2:∀ cells elem q,o'≠Go.Obj.cells cells elem q):dx w (w.putObj D o'):=by
 refine ⟨rfl,rfl,rfl,fun a=>?_⟩;have hlt:D < w.heap.size:=by
  rcases zaf D w.heap.size with e | e
  ·exact e
  ·rw [zak e] at h;simp at h
 unfold World.frozen?;by_cases e:a.block=D
 ·rw [e,World.putObj_heap_same hlt,h]
  cases o<;>cases o'<;>first | rfl | (exact absurd rfl (h1 _ _ _)) | (exact absurd rfl (h2 _ _ _))
 ·rw [World.putObj_heap_other e]
theorem mJ {fn:Func} {tmps:Array Value} {R:Ending->World->Prop}:∀ (Ds:List Nat) (w:World),Ds.Nodup->(∀ D∈Ds,w.heap[D]?=some (.deferred (some [])))->
 (∀ w',AS w w'->(∀ b:Nat,w'.heap[b]?=w.heap[b]?\/b∈Ds)->∃ v,(results fn tmps).run P w'= .ok v w'/\R (.returned v) w')->
 LeavesInM Fence.wide 0 P fn tmps R (Ds.map fun D=>({ target:= .collected D,args:=#[] }:Deferred)) .returning w
 | [],w,_,_,h=>h w ⟨rfl,dx.refl _,fun _=> .inl rfl⟩ (fun _=> .inl rfl)
 | D::Ds,w,hn,hw,h=>by
  have hD:=hw D (by simp);have hlt:D < w.heap.size:=by
   rcases zaf D w.heap.size with e | e
   ·exact e
   ·rw [zak e] at hD;simp at hD
  rw [zc2] at hn;refine ⟨by simp,.inl ⟨D,_,rfl,run_takeDeferred hD,?_⟩⟩;refine mJ Ds _ hn.2 (fun D' So=>?_) fun w' hs hk=>?_
  ·rw [World.putObj_heap_other (show D'≠D from fun e=>hn.1 (by rw [<-e];exact So))];exact hw D' (by simp [So])
  ·refine h w' ⟨by rw [hs.size,World.putObj_size],(dx.putObj hD (by simp) (by simp)).trans hs.same,fun b=>?_⟩ fun b=>?_
   ·by_cases e:b=D
    ·exact .inr ⟨_,by rw [e];exact hD⟩
    ·rcases hs.keep b with h1 | ⟨x,h1⟩
     ·rw [World.putObj_heap_other e] at h1;exact .inl h1
     ·rw [World.putObj_heap_other e] at h1;exact .inr ⟨x,h1⟩
   ·by_cases e:b=D
    ·exact .inr (by simp [e])
    ·rcases hk b with h1 | h1
     ·rw [World.putObj_heap_other e] at h1;exact .inl h1
     ·exact .inr (by simp [h1])
theorem AS.V {c:Ctx} {w':World} (h:AS c.w w') {x:AV} {v:Value} (hx:V c x v):V { c with w:=w' } x v:=by
 refine V.Gi (c:=c) (d:={ c with w:=w' }) (fun b o u hb hc=>⟨?_,hb⟩) (fun _ _ _ _ _ h=>h) (fun _ _ _ _ _ h=>h) (fun _ _ _ _ _ _ h=>h) (fun _ _ h=>h) hx;rcases h.keep b with e | ⟨x,e⟩
 ·unfold World.cell? at hc ⊢;simp only [e];exact hc
 ·unfold World.cell? at hc;simp [e] at hc
theorem AS.hr {c:Ctx} {w':World} (h:AS c.w w') (hr:HR c):HR { c with w:=w' }:=by
 refine ⟨?_,hr.inj⟩;intro id nl sz es h1 h2;obtain ⟨cells,elem,g1,g2,g3,g4,g5⟩:=hr.back id nl sz es h1 h2;refine ⟨cells,elem,?_,g2,g3,g4,fun i hi=>⟨(g5 i hi).1,fun j hj=>?_⟩⟩
 ·rcases h.keep (c.ι id) with e | ⟨x,e⟩
  ·exact e.trans g1
  ·rw [g1] at e;simp at e
 ·obtain ⟨u,hu,hv⟩:=(g5 i hi).2 j hj;exact ⟨u,hu,h.V hv⟩
theorem AS.x {cr:RC->Code->Prop} {c:Ctx} {w':World} (h:AS c.w w') (hx:XR cr c):XR cr { c with w:=w' }:=by
 refine ⟨fun id o h1 h2=>?_,hx.xi⟩;obtain ⟨wo,g1,g2⟩:=hx.xr id o h1 h2;refine ⟨wo,?_,g2.mono fun x v hv=>h.V hv⟩;rcases h.keep (c.ι id) with e | ⟨x,e⟩
 ·exact e.trans g1
 ·rw [g1] at e;injection e with e;exact (g2.Gk _ e).elim
theorem AS.oO {c d:Ctx} {w':World} {n:Nat} (h:AS d.w w') (hf:cW n c d) (hk:∀ b:Nat,b < c.w.heap.size->w'.heap[b]?=d.w.heap[b]?):cW n c { d with w:=w' }:=
 ⟨by rw [h.size];exact hf.size,fun b hb hn hs=>(hk b hb).trans (hf.keep b hb hn hs),fun x v hb hx=>h.V (hf.vals x v hb hx),hf.owned,hf.len,hf.same.trans h.same,hf.jK⟩
theorem xH (ck:iJ P E) (fX:∀ hs code,Av P E ex (comp P hs code) code) {f:Nat} {xs:List AV} {r:AV} (h:mU E.fns ex f xs=some r)
 {F:Nat->Prop} {c:Ctx} (lX:SR (fo P F) c) (hH:c.H=[]) (B4:gY c E.aJ) {vs:List Value} (hl:vs.length=xs.length) (hv:∀ i (hi:i < xs.length) (hj:i < vs.length),V c xs[i] vs[i]):
 Calls P f vs.toArray c.w fun e w'=>∃ v,e= .returned v/\(c.w.heap.size<=w'.heap.size/\dx c.w w')/\(∀ b,b < c.w.heap.size->w'.heap[b]?=c.w.heap[b]?)/\r.bp 0=true/\
  ∀ c':Ctx,c'.w=w'->(∀ b,c'.O b->F b)->V c' r v:=by
 unfold mU at h;split at h
 case h_2=>simp at h
 rename_i rf si;split at h
 case isFalse=>
  exfalso;unfold WW at h;split at h
  case h_2=>simp at h
  cases vs with
  | nil=>simp at hl
  | cons v vs=>
   have h0:=hv 0 (by simp) (by simp)
   cases h0 with
   | aA _ _ _ _ _ h0=>have:=h0.1.1;rw [hH] at this;simp at this
 rename_i hna;obtain ⟨fn,hs,hf,hc⟩:=ck.fns f rf si;obtain ⟨code,hb,_,hres,hbody,hnt,_⟩:=jV hc;have hfr:=DG (E:=E) (rf:=rf) (fn:=fn) lX B4 hl hv hnt;rw [hH] at hfr;refine (callsIn_wide (n:=0)).1 (callsIn_of_wp_marks hf hb trivial ?_);have fin:∀ (s':St) (l:List AV),cQ rf.results s'=some l->pack s'.H (oneOf l)=some r->∀ d a',FR (fun b=>c.w.heap.size<=b) (fo P F) E.aJ d s' a'->cW 0 c d->
  LeavesInM Fence.wide 0 P fn a'.tmps (fun e w'=>∃ v,e=Ending.returned v/\(c.w.heap.size<=w'.heap.size/\dx c.w w')/\(∀ b,b < c.w.heap.size->w'.heap[b]?=c.w.heap[b]?)/\r.bp 0=true/\
   ∀ c':Ctx,c'.w=w'->(∀ b,c'.O b->F b)->V c' r v) a'.defers .returning d.w:=by
  intro s' l h1 h2 d0 a' yK KL;obtain ⟨_,Ds,m1,m2,m3⟩:=yK.df;rw [m2];refine mJ Ds d0.w m1 (fun D hD=>(m3 D hD).2) fun w' hs hk=>?_
  have aU:cW 0 c { d0 with w:=w' }:=hs.oO KL fun b hb=>(hk b).elim id fun hD=>by have:=(m3 b hD).1;omega
  have Xc:=hs.hr yK.sr.hr;have W8:TR { d0 with w:=w' } s'.tmps a'.tmps:=⟨yK.tr.1,fun i hi hj=>hs.V (yK.tr.2 i hi hj)⟩;obtain ⟨v,e1,e2⟩:=z9 (P:=P) (c:={ d0 with w:=w' }) Xc W8 yK.hH hres h1;have hp:∀ c':Ctx,c'.w=w'->(∀ b,c'.O b->F b)->V c' r v/\r.bp 0=true:=by
   intro c' hw hO;exact UD (c:={ d0 with w:=w' }) Xc ⟨hw,fun b hb=>(yK.sr.hO b).2 (.inl (hO b hb)),fun b ho hb=>yK.sr.eX b ho (hO b hb)⟩ e2 (by rw [show ({ d0 with w:=w' }:Ctx).H=s'.H from yK.hH];exact h2)
  refine ⟨v,e1,v,rfl,⟨aU.size,aU.same⟩,fun b hb=>aU.keep b hb ?_ ?_,?_,fun c' hw hO=>(hp c' hw hO).1⟩
  ·rintro ⟨id,nl,sz,es,h3,_⟩;rw [hH] at h3;simp at h3
  ·rintro ⟨id,o,h3,_⟩;rw [hH] at h3;simp at h3
  ·exact (hp ⟨w',fun _=>False,fun _=>0,fun _=>0,[]⟩ rfl (fun b hb=>hb.elim)).2
 split at h
 ·simp at h
 ·rename_i e s' hne hex;split at h
  case h_2=>simp at h
  rename_i l hl';rw [hbody] at hex;refine fX hs code none (.inl rfl) _ F c 0 _ e s' _ hfr (zaJ _) hex _ fun d a' hd aU=>?_
  cases e with
  | exit id=>exact (hne id rfl).elim
  | normal=>exact fin s' l hl' h d a' hd aU
  | ret=>exact fin s' l hl' h d a' hd aU
 ·simp at h
theorem wP (ck:iJ P E) (fX:∀ hs code,Av P E ex (comp P hs code) code) {f:Nat} {xs:List AV} {r:AV} {H':List Obj} {F:Nat->Prop} {c:Ctx}
 (h:Aw E.fns ex (some f) xs c.H=some (r,H')) (lX:SR (fo P F) c) (B4:gY c E.aJ) {vs:List Value} (hl:vs.length=xs.length) (hv:∀ i (hi:i < xs.length) (hj:i < vs.length),V c xs[i] vs[i]):
 Calls P f vs.toArray c.w fun e w'=>∃ v,∃ d:Ctx,e= .returned v/\d.w=w'/\d.H=H'/\SR (fo P F) d/\cW c.H.length c d/\V d r v:=by
 unfold Aw at h;dsimp only at h;split at h
 case h_2=>simp at h
 rename_i rf si;split at h
 case isFalse=>simp at h
 rename_i hna;obtain ⟨fn,hs,hf,hc⟩:=ck.fns f rf si;obtain ⟨code,hb,_,hres,hbody,hnt,_⟩:=jV hc;have hfr:=DG (E:=E) (rf:=rf) (fn:=fn) lX B4 hl hv hnt;refine (callsIn_wide (n:=0)).1 (callsIn_of_wp_marks hf hb trivial ?_);have fin:∀ (s':St) (l:List AV),cQ rf.results s'=some l->oneOf l=r->s'.H=H'->∀ d a',FR (fun b=>c.w.heap.size<=b) (fo P F) E.aJ d s' a'->cW c.H.length c d->
  LeavesInM Fence.wide 0 P fn a'.tmps (fun e w'=>∃ v,∃ d:Ctx,e=Ending.returned v/\d.w=w'/\d.H=H'/\SR (fo P F) d/\cW c.H.length c d/\V d r v) a'.defers .returning d.w:=by
  rintro s' l h1 rfl rfl d0 a' yK KL;obtain ⟨_,Ds,m1,m2,m3⟩:=yK.df;rw [m2];refine mJ Ds d0.w m1 (fun D hD=>(m3 D hD).2) fun w' hs hk=>?_
  have aU:cW c.H.length c { d0 with w:=w' }:=hs.oO KL fun b hb=>(hk b).elim id fun hD=>by have:=(m3 b hD).1;omega
  have Xc:=hs.hr yK.sr.hr;have W8:TR { d0 with w:=w' } s'.tmps a'.tmps:=⟨yK.tr.1,fun i hi hj=>hs.V (yK.tr.2 i hi hj)⟩;obtain ⟨v,e1,e2⟩:=z9 (P:=P) (c:={ d0 with w:=w' }) Xc W8 yK.hH hres h1;exact ⟨v,e1,v,{ d0 with w:=w' },rfl,rfl,yK.hH,⟨Xc,yK.sr.hO,fun b hb=>by rw [show ({ d0 with w:=w' }:Ctx).w=w' from rfl,hs.size];exact yK.sr.hF b hb,yK.sr.eX,hs.x yK.sr.x⟩,aU,e2⟩
 split at h
 ·simp at h
 ·rename_i e s' hne hex;split at h
  case h_2=>simp at h
  rename_i l hl';simp only [za1,za4] at h;rw [hbody] at hex;refine fX hs code none (.inl rfl) _ F c c.H.length _ e s' _ hfr (za6 _) hex _ fun d a' hd aU=>?_
  cases e with
  | exit id=>exact (hne id rfl).elim
  | normal=>exact fin s' l hl' h.1 h.2 d a' hd aU
  | ret=>exact fin s' l hl' h.1 h.2 d a' hd aU
 ·simp at h
theorem I0 {H:List Obj} {a b c d:Nat}:∀ {n:Nat} {x:AV},pk n H x=some (.aA a b c d)->False
 | 0,x,h=>by
  unfold pk at h;split at h
  ·rename_i hr;injection h with h;subst h
   simp [AV.fE,AV.bp] at hr
  ·simp at h
 | n+1,x,h=>by
  unfold pk at h;split at h
  ·rename_i hr;injection h with h;subst h
   simp [AV.fE,AV.bp] at hr
  ·split at h<;>(try (simp at h;done))<;>(repeat' split at h)<;>(try (simp at h;done));injection h with h
   unfold su at h
   (repeat' split at h)<;>simp at h
theorem FL {H:List Obj} {x:AV} {a b c d:Nat} {l:List AV} (h:pack H x=some (.bl (.aA a b c d::l))):False:=by
 unfold pack pk at h;split at h
 ·rename_i hr;injection h with h;subst h
  simp [AV.fE,AV.bp,AV.aT] at hr
 ·split at h
  case h_4=>
   rename_i cs hc;split at h
   case h_2=>simp at h
   rename_i l' hm;injection h with h
   injection h with h
   subst h
   cases cs with
   | nil=>simp [fC] at hm
   | cons y ys=>
    rw [fC] at hm;split at hm
    case h_2=>simp at hm
    rename_i z zs hz _;simp only [za1,zaE] at hm;obtain ⟨rfl,_⟩:=hm;exact I0 hz
  all_goals (try (simp at h;done))<;>(repeat' split at h)<;>(try (simp at h;done))
  injection h with h
  unfold su at h
  (repeat' split at h)<;>simp at h
theorem FM {F:Fo} {c:Ctx} (lX:SR F c) (w':World) (hsz:c.w.heap.size<=w'.heap.size) (Jo:dx c.w w') (hkeep:∀ b,b < c.w.heap.size->w'.heap[b]?=c.w.heap[b]?):
 SR F { c with w:=w' }/\(∀ x v,V c x v->V { c with w:=w' } x v)/\∀ n,cW n c { c with w:=w' }:=by
 have hlt:∀ b,(c.w.heap[b]?).isSome->b < c.w.heap.size:=by
  intro b hs;rcases zaf b c.w.heap.size with e | e
  ·exact e
  ·rw [zak e] at hs;simp at hs
 have hV:∀ x v,V c x v->V { c with w:=w' } x v:=fun x v hx=>
  V.mono (c:=c) (d:={ c with w:=w' }) (fun b hb hs=>⟨hkeep b (hlt b hs),hb⟩) (fun _ _ _ _ _ h=>h) (fun _ _ _ _ _ h=>h) (fun _ _ _ _ _ _ h=>h) (fun _ _ h=>h) hx
 refine ⟨⟨⟨?_,lX.hr.inj⟩,lX.hO,fun b hf=>zb3 (lX.hF b hf) hsz,lX.eX,lX.x.keep (fun id o h1 h2=>⟨h1,rfl,hkeep _ (lX.o4 h1 h2).1⟩) hV⟩,hV,fun n=>⟨hsz,fun b hb _ _=>hkeep b hb,fun x v _ hx=>hV x v hx,fun b ho=> .inl ho,fun h=>h,Jo,fun b hb=> .inl hb⟩⟩;intro id nl sz es h1 h2;obtain ⟨cells,elem,g1,g2,g3,g4,g5⟩:=lX.hr.back id nl sz es h1 h2;have hb:c.ι id < c.w.heap.size:=hlt _ (by rw [g1];rfl);refine ⟨cells,elem,by rw [hkeep _ hb];exact g1,g2,g3,g4,fun i hi=>⟨(g5 i hi).1,fun j hj=>?_⟩⟩;obtain ⟨u,hu,Xd⟩:=(g5 i hi).2 j hj;exact ⟨u,hu,hV _ _ Xd⟩
theorem Aa:∀ {l:List AV},AV.jF l=true->∀ i (hi:i < l.length),l[i].flat=true
 | [],_,i,hi=>by simp at hi
 | x::l,h,i,hi=>by
  simp only [AV.jF,za0] at h
  cases i with
  | zero=>exact h.1
  | succ i=>exact Aa h.2 i (by simpa using hi)
theorem Nr (ck:iJ P E) (fX:∀ hs code,Av P E ex (comp P hs code) code) {f pl:Nat} {xs:List AV} {r:AV} {H':List Obj} {F:Nat->Prop} {c:Ctx}
 (h:mkObj (mU E.fns ex) f xs pl c.H=some (r,H')) (dm:Room c.H pl) (lX:SR (fo P F) c) (B4:gY c E.aJ) {vs:List Value} (hl:vs.length=xs.length)
 (hv:∀ i (hi:i < xs.length) (hj:i < vs.length),V c xs[i] vs[i]):
 Calls P f vs.toArray c.w fun e w'=>∃ v,∃ d:Ctx,e= .returned v/\d.w=w'/\d.H=H'/\SR (fo P F) d/\(∀ x v,V c x v->V d x v)/\(∀ n,cW n c d)/\V d r v:=by
 unfold mkObj at h;split at h
 case h_2=>simp at h
 rename_i ys hys;split at h
 case h_2=>simp at h
 rename_i tsz y hcs;split at h
 case isFalse=>simp at h
 rename_i CA;have Rq:=kI hys;obtain ⟨u,H2,hrun,hres⟩:∃ u H2,Aw E.fns ex (some f) ys []=some (u,H2)/\qO H2 u=some (.bl [.aA 0 0 tsz 0,y]):=by
  unfold mU at hcs;split at hcs
  case h_2=>simp at hcs
  rename_i rf si;split at hcs
  ·rename_i hlen;split at hcs
   ·simp at hcs
   ·split at hcs
    case h_2=>simp at hcs
    rename_i hr;exact (FL hcs).elim
   ·simp at hcs
  ·unfold WW at hcs;split at hcs
   case h_2=>simp at hcs
   rename_i as heq;injection heq with _ heq
   subst heq;split at hcs
   case isFalse=>simp at hcs
   rename_i hlen;split at hcs
   ·simp at hcs
   ·rename_i e s' hne hex;split at hcs
    case h_2=>simp at hcs
    rename_i u hres;refine ⟨u,s'.H,?_,hcs⟩;unfold Aw;dsimp only;rw [si];dsimp only;rw [if_pos hlen];simp only [List.length_nil];rw [hex]
    cases e with
    | exit i=>exact (hne i rfl).elim
    | normal=>dsimp only;rw [hres];rfl
    | ret=>dsimp only;rw [hres];rfl
   ·simp at hcs
 have hno:∀ b,¬ bF ([]:List Obj) c.ι b:=by rintro b ⟨id,nl,sz,es,h1,_⟩;simp at h1
 have TM:∀ b,c.O b->b < c.w.heap.size:=by
  intro b hb;rcases (lX.hO b).1 hb with h1 | ⟨id,nl,sz,es,h1,h2,h3⟩
  ·exact lX.hF b h1
  ·obtain ⟨cells,elem,g1,_⟩:=lX.hr.back id nl sz es h1 h2;rw [h3] at g1;obtain ⟨h4,_⟩:=zbz.1 g1;exact h4
 obtain ⟨O0,hO0,SJ,EB,W1,CA⟩:∃ O0:Nat->Prop,(∀ b,O0 b->b < c.w.heap.size)/\(∀ x v,x.bp 0=true->V c x v->V ⟨c.w,O0,c.ι,c.K,[]⟩ x v)/\
  (∀ i (hi:i < ys.length) (hj:i < vs.length),V ⟨c.w,O0,c.ι,c.K,[]⟩ ys[i] vs[i])/\vs.length=ys.length/\(O0=c.O\/wj y=true):=by
  by_cases hfree:AV.aT 0 xs=true
  ·have hyx:=C0 c.H xs ys hfree Rq;subst hyx;have SJ:∀ x v,x.bp 0=true->V c x v->V ⟨c.w,c.O,c.ι,c.K,[]⟩ x v:=fun x v hb hx=>
    V.monoB (c:=c) (d:=⟨c.w,c.O,c.ι,c.K,[]⟩) 0 (fun b hb _=>⟨rfl,hb⟩) (fun _ _ _ _ _ h=>by omega) (fun _ _ _ _ _ h=>by omega) (fun _ _ _ _ _ _ h=>by omega) (fun _ _ h=>by omega) hx hb
   exact ⟨c.O,TM,SJ,fun i hi hj=>SJ _ _ (cO hfree i hi) (hv i hi hj),hl,.inl rfl⟩
  ·have hfl:wj y=true:=by
    cases hb:AV.aT 0 xs with
    | true=>exact (hfree hb).elim
    | false=>rw [hb] at CA;simpa using CA
   have CB:Cb c ⟨c.w,fun _=>False,c.ι,c.K,[]⟩:=⟨rfl,fun b hb=>hb.elim,fun b _ hb=>hb⟩;obtain ⟨e1,e2,e3⟩:=G3 lX.hr CB xs ys vs hl hv Rq;exact ⟨fun _=>False,fun b hb=>hb.elim,fun x v hb hx=>CB.free hb hx,e2,by omega,.inr hfl⟩
 let c0:Ctx:=⟨c.w,O0,c.ι,c.K,[]⟩;have J3:SR (fo P O0) c0:=
  ⟨⟨fun id nl sz es h1=>by simp [c0] at h1,fun id id' _ _ _ _ _ _ h1=>by simp [c0] at h1⟩,fun b=>⟨fun h=> .inl h,fun h=>h.elim (fun h=>h) (fun h=>(hno b h).elim)⟩,hO0,fun b h=>(hno b h).elim,.nil rfl⟩
 have adP:gY c0 E.aJ:=fun g=>SJ _ _ (by simp only [AV.bp]) (B4 g)
 refine (wP ck fX (c:=c0) hrun J3 adP W1 EB).mono ?_;rintro e w' ⟨v,d0,rfl,rfl,hdH,O4,aU,hVv⟩;have hkeep:∀ b,b < c.w.heap.size->d0.w.heap[b]?=c.w.heap[b]?:=fun b hb=>aU.keep b hb (hno b) (by rintro ⟨id,o,h1,_⟩;simp [c0] at h1)
 have qz:∀ o:Obj,o≠ .iA->c.H[pl]?≠some o:=by
  intro o ho e;rcases dm with h1 | h1
  ·rw [h1] at e;injection e with e;exact ho e.symm
  ·rw [h1] at e;simp at e
 have put:∀ (j:Nat) (fl:Fl) (sz:Nat) (es:List (List AV)),d0.H[j]?=some (.live fl sz es)->¬(fl= .nil/\es=[])->AV.bN 0 es=true->(O0=c.O\/es.all AV.jF=true)->
  ∃ d:Ctx,d.w=d0.w/\d.H=putObj c.H pl (.live .norm sz es)/\SR (fo P F) d/\(∀ x v,V c x v->V d x v)/\(∀ n,cW n c d)/\d.ι pl=d0.ι j/\d.K pl=d0.K j:=by
  intro j fl sz es Gf hne Er hmd;obtain ⟨cells,elem,g1,g2,g3,g4,g5⟩:=O4.hr.back j _ _ _ Gf hne;have hown:bF d0.H d0.ι (d0.ι j):=⟨j,_,_,_,Gf,hne,rfl⟩;have hge:c.w.heap.size<=d0.ι j:=(aU.owned _ hown).elim (fun h=>(hno _ h).elim) fun h=>h
  exact X1 lX pl (d0.ι j) (d0.K j) .norm sz es cells elem d0.w (putObj c.H pl (.live .norm sz es))
   (wv _) (cJ dm _) (fun j hj=> .inl (lN dm _ j hj)) (qz _ (by simp)) (KM qz) (fun bR bA bC hs=>(qz _ (by simp) hs).elim) (by simp) aU.same aU.size
   (fun b hb _=>hkeep b hb) g1 (.inl hge) (fun j' bR bA bC _ hs hbk he=>by
    obtain ⟨cl,el,q1,_⟩:=lX.hr.back j' _ _ _ hs hbk;obtain ⟨h4,_⟩:=zbz.1 q1;omega) g2 g3 (fun i hi=>⟨(g5 i hi).1,fun q hq=>by
     obtain ⟨u,hu,NV⟩:=(g5 i hi).2 q hq;refine ⟨u,hu,.inr fun d hdw hdO=>?_⟩;rcases hmd with rfl | hmd
     case inr=>exact Ld NV (Aa (zai.1 hmd _ (zaG hi)) q hq)
     have hb0:(es[i][q]).bp 0=true:=cO (ij Er i hi) q hq;refine V.monoB (c:=d0) (d:=d) 0 (fun b hb _=>⟨by rw [hdw],fun hd=>hb ?_⟩) (fun _ _ _ _ _ h=>by omega) (fun _ _ _ _ _ h=>by omega) (fun _ _ _ _ _ _ h=>by omega) (fun _ _ h=>by omega) NV hb0;rcases hdO b hd with e | e
     ·exact (O4.hO b).2 (.inl e)
     ·rw [e];exact (O4.hO _).2 (.inr hown)⟩)
 have HH:v= .slice none 0 0->r= .bD->H'=c.H->∃ v',∃ d:Ctx,Ending.returned v= .returned v'/\d.w=d0.w/\d.H=H'/\SR (fo P F) d/\(∀ x v,V c x v->V d x v)/\(∀ n,cW n c d)/\V d r v':=by
  rintro rfl rfl rfl;obtain ⟨b1,b2,b3⟩:=FM lX d0.w aU.size aU.same hkeep;exact ⟨_,{ c with w:=d0.w },rfl,rfl,rfl,b1,b2,b3,.bD⟩
 unfold qO at hres;split at hres
 ·rename_i j;split at hres
  case h_2=>simp at hres
  rename_i sz cs hj;split at hres
  case isFalse=>simp at hres
  rename_i hb;simp only [za1,AV.bl.injEq,zaE,AV.aA.injEq,and_true,true_and] at hres;obtain ⟨rfl,rfl⟩:=hres;simp only [wh,za1,za4] at h;obtain ⟨rfl,rfl⟩:=h;have Gf:d0.H[j]?=some (.live .norm sz [cs]):=by rw [hdH];exact hj
  obtain ⟨cells,elem,g1,g2,g3,g4,g5⟩:=O4.hr.back j _ _ _ Gf (by simp);have hsz:cs.length=sz:=(g5 0 (by simp)).1;subst hsz;obtain ⟨d,k1,k2,k3,k4,k5,k6,k7⟩:=put j .norm cs.length [cs] Gf (by simp) (by simp [AV.bN,hb]) (CA.imp id fun h=>by simpa [wj] using h);refine ⟨v,d,rfl,k1,k2,k3,k4,k5,?_⟩
  cases hVv with
  | aA _ _ _ _ _ hp=>
   obtain ⟨_,a,rfl,hsp,hp⟩:=hp;have hp2:=(hp _ _ _ Gf).2 (by simp);refine .aA _ _ _ _ _ ⟨by rw [Has,k2];exact ⟨pO dm _,by rw [cJ dm];simp⟩,a,rfl,hsp,fun nl sz es hs=>?_⟩;rw [k2,cJ dm] at hs;simp at hs;obtain ⟨_,rfl,rfl⟩:=hs;exact ⟨by simp,fun _=>by rw [hp2,k6]⟩
 ·simp only [za1,AV.bl.injEq,zaE,AV.aA.injEq,and_true,true_and] at hres;obtain ⟨rfl,rfl⟩:=hres;simp only [wh,za1,za4] at h;obtain ⟨rfl,rfl⟩:=h
  cases hVv;exact HH rfl rfl rfl
 ·rename_i j ext off len;split at hres
  case h_2=>simp at hres
  rename_i fl sz es hj;split at hres
  case isFalse=>simp at hres
  rename_i hc;obtain ⟨rfl,rfl,rfl⟩:=hc;have Gf:d0.H[j]?=some (.live fl sz es):=by rw [hdH];exact hj
  have slice:¬(fl= .nil/\es=[])->AV.bN 0 es=true->tsz=sz->y= .ro es->∃ v',∃ d:Ctx,Ending.returned v= .returned v'/\d.w=d0.w/\d.H=H'/\SR (fo P F) d/\(∀ x v,V c x v->V d x v)/\(∀ n,cW n c d)/\V d r v':=by
   rintro hne Er rfl rfl;simp only [wh,za1,za4] at h;obtain ⟨rfl,rfl⟩:=h;obtain ⟨d,k1,k2,k3,k4,k5,k6,k7⟩:=put j fl tsz es Gf hne Er (CA.imp id fun h=>by simpa only [wj] using h);refine ⟨v,d,rfl,k1,k2,k3,k4,k5,?_⟩
   cases hVv with
   | own _ _ _ _ _ ho=>
    obtain ⟨_,⟨a,cap,rfl⟩,ho⟩:=ho;obtain ⟨_,ho⟩:=ho _ _ _ Gf;obtain ⟨_,ho⟩:=ho rfl;rcases ho with ⟨q1,q2,_⟩ | ⟨_,cap',q1,q2⟩
    ·exact (hne ⟨q1,q2⟩).elim
    ·injection q1 with e1 e2 e3
     subst e1;subst e3;refine .own _ _ _ _ _ ⟨by rw [Has,k2];exact ⟨pO dm _,by rw [cJ dm];simp⟩,⟨_,_,rfl⟩,fun nl bA bC hs=>?_⟩;rw [k2,cJ dm] at hs;simp at hs;obtain ⟨rfl,rfl,rfl⟩:=hs;exact ⟨by simp,fun _=>⟨by simp,.inr ⟨by simp,cap,by rw [k6],by rw [k7,<-q2]⟩⟩⟩
  split at hres
  ·split at hres
   ·rename_i hfl;subst hfl;simp only [za1,AV.bl.injEq,zaE,AV.aA.injEq,and_true,true_and] at hres;obtain ⟨rfl,rfl⟩:=hres;simp only [wh,za1,za4] at h;obtain ⟨rfl,rfl⟩:=h
    cases hVv with
    | own _ _ _ _ _ ho=>
     obtain ⟨_,_,ho⟩:=ho;obtain ⟨_,ho⟩:=(ho _ _ _ Gf).2 rfl;rcases ho with ⟨_,_,q⟩ | ⟨q,_⟩
     ·exact HH q rfl rfl
     ·exact (q ⟨rfl,rfl⟩).elim
   ·split at hres
    case isFalse=>simp at hres
    rename_i hfl;subst hfl;simp only [za1,AV.bl.injEq,zaE,AV.aA.injEq,and_true,true_and] at hres;exact slice (by simp) rfl hres.1.symm hres.2.symm
  ·split at hres
   case isFalse=>simp at hres
   rename_i hc;simp only [za1,AV.bl.injEq,zaE,AV.aA.injEq,and_true,true_and] at hres;exact slice (by simp) hc.2 hres.1.symm hres.2.symm
 ·simp at hres
theorem FN (ck:iJ P E) (fX:∀ hs code,Av P E ex (comp P hs code) code) {hp:Nat->Bool} {cH:CH} (N8:cH=Aw E.fns ex\/cH=kQ) {f:Nat} {xs:List AV} {r:AV} {H':List Obj} {F:Nat->Prop} {c:Ctx}
 (h:bK hp (mU E.fns ex) cH f xs c.H=some (r,H')) (lX:SR (fo P F) c) (B4:gY c E.aJ) {vs:List Value} (hl:vs.length=xs.length)
 (hv:∀ i (hi:i < xs.length) (hj:i < vs.length),V c xs[i] vs[i]):
 Calls P f vs.toArray c.w fun e w'=>∃ v,∃ d:Ctx,e= .returned v/\d.w=w'/\d.H=H'/\SR (fo P F) d/\cW c.H.length c d/\V d r v:=by
 have Sa:cH (some f) xs c.H=some (r,H')->Calls P f vs.toArray c.w fun e w'=>∃ v,∃ d:Ctx,e= .returned v/\d.w=w'/\d.H=H'/\SR (fo P F) d/\cW c.H.length c d/\V d r v:=fun h'=>by
  rcases N8 with rfl | rfl
  ·exact wP ck fX h' lX B4 hl hv
  ·simp [kQ] at h'
 unfold bK at h;split at h
 ·exact Sa h
 ·split at h
  case h_2=>exact Sa h
  rename_i ys hys;split at h
  case h_2=>simp at h
  rename_i r' hr';split at h
  case isFalse=>simp at h
  rename_i Sb;simp only [za1,za4] at h;obtain ⟨rfl,rfl⟩:=h;have back:∀ w':World,(c.w.heap.size<=w'.heap.size/\dx c.w w')->(∀ b,b < c.w.heap.size->w'.heap[b]?=c.w.heap[b]?)->
   SR (fo P F) { c with w:=w' }/\cW c.H.length c { c with w:=w' }:=by
   rintro w' ⟨hsz,Jo⟩ hkeep;have hlt:∀ b,(c.w.heap[b]?).isSome->b < c.w.heap.size:=by
    intro b hs;rcases zaf b c.w.heap.size with e | e
    ·exact e
    ·rw [zak e] at hs;simp at hs
   have hV:∀ x v,V c x v->V { c with w:=w' } x v:=fun x v hx=>
    V.mono (c:=c) (d:={ c with w:=w' }) (fun b hb hs=>⟨hkeep b (hlt b hs),hb⟩) (fun _ _ _ _ _ h=>h) (fun _ _ _ _ _ h=>h) (fun _ _ _ _ _ _ h=>h) (fun _ _ h=>h) hx
   refine ⟨⟨⟨?_,lX.hr.inj⟩,lX.hO,fun b hf=>zb3 (lX.hF b hf) hsz,lX.eX,lX.x.keep (fun id o h1 h2=>⟨h1,rfl,hkeep _ (lX.o4 h1 h2).1⟩) hV⟩,⟨hsz,fun b hb _ _=>hkeep b hb,fun x v _ hx=>hV x v hx,fun b ho=> .inl ho,fun h=>h,Jo,fun b hb=> .inl hb⟩⟩;intro id nl sz es h1 h2;obtain ⟨cells,elem,g1,g2,g3,g4,g5⟩:=lX.hr.back id nl sz es h1 h2;have hb:c.ι id < c.w.heap.size:=hlt _ (by rw [g1];rfl);refine ⟨cells,elem,by rw [hkeep _ hb];exact g1,g2,g3,g4,fun i hi=>⟨(g5 i hi).1,fun j hj=>?_⟩⟩;obtain ⟨u,hu,Xd⟩:=(g5 i hi).2 j hj;exact ⟨u,hu,hV _ _ Xd⟩
  have glb:∀ d:Ctx,(∀ x v,x.bp 0=true->V c x v->V d x v)->gY d E.aJ:=fun d hd g=>hd _ _ (by simp only [AV.bp]) (B4 g)
  by_cases hfree:AV.aT 0 xs=true
  ·
   have hyx:=C0 c.H xs ys hfree hys;subst hyx;let c0:Ctx:=⟨c.w,c.O,c.ι,c.K,[]⟩;have hno:∀ b,¬ bF ([]:List Obj) c.ι b:=by rintro b ⟨id,nl,sz,es,h1,_⟩;simp at h1
   have SJ:∀ x v,x.bp 0=true->V c x v->V c0 x v:=fun x v hb hx=>
    V.monoB (c:=c) (d:=c0) 0 (fun b hb _=>⟨rfl,hb⟩) (fun _ _ _ _ _ h=>by omega) (fun _ _ _ _ _ h=>by omega) (fun _ _ _ _ _ _ h=>by omega) (fun _ _ h=>by omega) hx hb
   have J3:SR (fo P c.O) c0:=by
    refine ⟨⟨fun id nl sz es h1=>by simp [c0] at h1,fun id id' _ _ _ _ _ _ h1=>by simp [c0] at h1⟩,fun b=>⟨fun h=> .inl h,fun h=>h.elim (fun h=>h) (fun h=>(hno b h).elim)⟩,fun b hb=>?_,fun b h=>(hno b h).elim,.nil rfl⟩;rcases (lX.hO b).1 hb with h1 | ⟨id,nl,sz,es,h1,h2,h3⟩
    ·exact lX.hF b h1
    ·obtain ⟨cells,elem,g1,_⟩:=lX.hr.back id nl sz es h1 h2;rw [h3] at g1;rcases zaf b c.w.heap.size with e | e
     ·exact e
     ·rw [zak e] at g1;simp at g1
   refine (xH ck fX hr' J3 rfl (glb c0 SJ) hl (fun i hi hj=>SJ _ _ (cO hfree i hi) (hv i hi hj))).mono ?_;rintro e w' ⟨v,rfl,hsz,hkeep,_,hres⟩;obtain ⟨b1,b2⟩:=back w' hsz hkeep;exact ⟨v,{ c with w:=w' },rfl,rfl,rfl,b1,b2,hres _ rfl fun b hb=>hb⟩
  ·
   have hfl:r'.flat=true:=by
    cases hb:AV.aT 0 xs with
    | true=>exact (hfree hb).elim
    | false=>rw [hb] at Sb;simpa using Sb
   let c0:Ctx:=⟨c.w,fun _=>False,c.ι,c.K,[]⟩;have hno:∀ b,¬ bF ([]:List Obj) c.ι b:=by rintro b ⟨id,nl,sz,es,h1,_⟩;simp at h1
   have CB:Cb c c0:=⟨rfl,fun b hb=>hb.elim,fun b _ hb=>hb⟩;have J3:SR (fo P fun _=>False) c0:=⟨⟨fun id nl sz es h1=>by simp [c0] at h1,fun id id' _ _ _ _ _ _ h1=>by simp [c0] at h1⟩,fun b=>⟨fun h=>h.elim,fun h=>h.elim (fun h=>h) (fun h=>(hno b h).elim)⟩,fun b hb=>hb.elim,fun b h=>(hno b h).elim,.nil rfl⟩;obtain ⟨e1,e2,e3⟩:=G3 lX.hr CB xs ys vs hl hv hys;refine (xH ck fX hr' J3 rfl (glb c0 fun x v hb hx=>CB.free hb hx) (by omega) e2).mono ?_;rintro e w' ⟨v,rfl,hsz,hkeep,_,hres⟩;obtain ⟨b1,b2⟩:=back w' hsz hkeep;exact ⟨v,{ c with w:=w' },rfl,rfl,rfl,b1,b2,Ld (hres { c0 with w:=w' } rfl fun b hb=>hb) hfl⟩
end
end Go.Am
end
section
namespace Go.Am
section
variable {P:Program} {E:Env} {ex:EX}
theorem HA {c:Ctx}:∀ (ps:List Nat) (xs:List AV) (vs:List Value) {t:List AV} {ts:Array Value},TR c t ts->xs.length=ps.length->vs.length=ps.length->(∀ i (hi:i < xs.length) (hj:i < vs.length),V c xs[i] vs[i])->
 TR c (uM ps xs t) ((ps.zip vs).foldl (fun t (p,v)=>t.setIfInBounds p v) ts)
 | [],[],[],_,_,h,_,_,_=>by simpa [uM] using h
 | p::ps,x::xs,v::vs,t,ts,h,h1,h2,hv=>by
  rw [uM,List.zip_cons_cons,zc0];refine HA ps xs vs ?_ (by simpa using h1) (by simpa using h2) (fun i hi hj=>hv (i+1) (by simpa using hi) (by simpa using hj));refine ⟨by simp [h.1],fun i hi hj=>?_⟩;have hx:=hv 0 (by simp) (by simp);by_cases hd:p=i
  ·subst hd;have e1:(t.set p x)[p]'hi=x:=by simp
   have e2:(ts.setIfInBounds p v)[p]'hj=v:=by simp
   rw [e1,e2];exact hx
  ·have e1:(t.set p x)[i]'hi=t[i]'(by simpa using hi):=by rw [zbk hd]
   have hj':i < (ts.setIfInBounds p v).size:=hj;have e2:(ts.setIfInBounds p v)[i]'hj'=ts[i]'(by simpa using hj'):=by rw [Array.getElem_setIfInBounds_ne (by simpa using hj') hd]
   show V c ((t.set p x)[i]'hi) ((ts.setIfInBounds p v)[i]'hj');rw [e1,e2];exact h.2 i _ _
 | [],_::_,_,_,_,_,h1,_,_=>by simp at h1
 | [],[],_::_,_,_,_,_,h2,_=>by simp at h2
 | _::_,[],_,_,_,_,h1,_,_=>by simp at h1
 | _::_,_::_,[],_,_,_,_,h2,_=>by simp at h2
theorem ux {F:Fo} {c:Ctx} (h:SR F c) {x y:Ls} {l:Nat} {H':List Obj} (hs:jH x y c.H l=some H'):
 ∃ r:Loop,c.w.heap[c.ι l]?=some (.loop r)/\LsR x r.state r.pending/\∀ r':Loop,r'.tmps=r.tmps->r'.params=r.params->r'.assign=r.assign->r'.body=r.body->LsR y r'.state r'.pending->
  ∃ d:Ctx,d.w=c.w.putObj (c.ι l) (.loop r')/\d.H=H'/\ek F c d/\d.ι l=c.ι l:=by
 unfold jH at hs;split at hs
 case h_2=>simp at hs
 rename_i s t ps b6 body hid;split at hs
 case isFalse=>simp at hs
 rename_i hsx;subst hsx;injection hs with hs;subst hs
 obtain ⟨wo,g1,r,rfl,g2,g3,g4,g5,g6⟩:=h.x.xr l _ hid rfl;refine ⟨r,g1,g6,fun r' e1 e2 e3 e4 e5=>?_⟩;exact S0 h hid rfl (.lp y t ps b6 body) rfl (.loop r') _ rfl (by simp) fun d hv=>⟨r',rfl,by rw [e1];exact g2.hJ hv,by rw [e2];exact g3,by rw [e3];exact g4,by rw [e4];exact g5,e5⟩
theorem cW.wR {n:Nat} {c d:Ctx} (h:cW n c d) {l b:Nat} (hl:l < n) (hb:SV c l b) {o:Obj} (hid:d.H[l]?=some o) (ho:o.sp=true):b=d.ι l:=by
 have:=h.vals (.fI l) (.func (.yield b) #[] #[]) (by simpa [AV.bp] using hl) (.fI l b hb)
 cases this with
 | fI _ _ hs=>exact hs.2 o hid ho
theorem IY (ck:iJ P E) (fX:∀ hs code,Av P E ex (comp P hs code) code) {F:Nat->Prop} {c:Ctx} (lX:SR (fo P F) c) (B4:gY c E.aJ) {l b:Nat} (hb:SV c l b) {xs:List AV} {vs:Array Value} (hl:vs.size=xs.length)
 (hv:∀ i (hi:i < xs.length) (hj:i < vs.size),V c xs[i] vs[i]) {v:AV} {H':List Obj} (hr:V7 ex (.fI l::xs) c.H=some (v,H')):
 ∃ fn tmps b6 body,(Instr.yield b vs).run P c.w= .ok (.round b fn tmps b6 body) c.w/\
  RoundIn Fence.wide 0 P b fn tmps b6 body c.w fun e w'=>∃ u,∃ d:Ctx,e= .returned u/\d.w=w'/\d.H=H'/\SR (fo P F) d/\cW c.H.length c d/\V d v u:=by
 unfold V7 at hr;dsimp only at hr;split at hr
 case h_2=>simp at hr
 rename_i t ps b6 body hid;split at hr
 case isFalse=>simp at hr
 rename_i hxl;split at hr
 case h_2=>simp at hr
 rename_i s1 sD;split at hr
 case h_2=>simp at hr
 rename_i H1 F4;have SA:l < c.H.length:=bL hid;have Er:=hb.2 _ hid rfl;obtain ⟨wo,g1,r,rfl,g2,g3,⟨hs1,Rp,ha2⟩,⟨yG,y9,EC⟩,g6⟩:=lX.x.xr l _ hid rfl;rw [<-Er] at g1;have adD:vs.size=r.params.size:=by rw [hl,hxl,<-g3];simp
 refine ⟨r.fn,_,r.assign,r.body,run_yield (P:=P) g1 adD,roundIn_of_wpIn trivial ?_⟩;subst Rp;subst y9;have W8:TR c (uM ps xs t) ((r.params.zip vs).foldl (fun t (p,v)=>t.setIfInBounds p v) r.tmps):=by
  have:=HA (c:=c) ps xs vs.toList g2 hxl (by simp;omega) (fun i hi hj=>hv i hi (by simpa using hj));rw [<-Array.foldl_toList,Array.toList_zip,g3];exact this
 have adE:FR (fun _=>True) (fo P F) E.aJ c ⟨uM ps xs t,c.H⟩ { tmps:=(r.params.zip vs).foldl (fun t (p,v)=>t.setIfInBounds p v) r.tmps,defers:=[] }:=⟨lX,W8,rfl,Marks.nil (fun _ _=>trivial),B4⟩;refine fX hs1 r.assign (some b) (.inr ha2) (fun _=>True) _ c c.H.length _ .normal s1 _ adE (za6 _) sD _ fun d1 a1 Jn VS=>?_
 have adF:=Jn.hH;rw [<-adF] at F4;obtain ⟨r1,k1,k2,k3⟩:=ux Jn.sr F4;have oQ:∃ o,d1.H[l]?=some o/\o.sp=true:=by
  unfold jH at F4;split at F4
  ·rename_i hq;exact ⟨_,hq,rfl⟩
  ·simp at F4
 obtain ⟨o1,Tr,ho1⟩:=oQ;have XZ:b=d1.ι l:=VS.wR SA hb Tr ho1;rw [<-XZ] at k1;refine ⟨_,run_beginRound (P:=P) k1 k2.1,?_⟩;obtain ⟨d2,q1,q2,q3,q4⟩:=k3 { r1 with state:= .busy } rfl rfl rfl rfl rfl;rw [<-XZ] at q1 q4;have adG:gY d2 E.aJ:=Jn.gl.oO ck.aJ (q3.2.2 0);have EH:FR (fun _=>True) (fo P F) E.aJ d2 ⟨s1.tmps,H1⟩ a1:=⟨q3.1,Jn.tr.hJ q3.2.1,q2,Jn.df.oO Jn.sr (q3.2.2 0),adG⟩;have Cv:c.H.length<=d2.H.length:=(q3.2.2 _).len (VS.len (za6 _));rw [<-q1];have adH:SV d2 l b:=by
  have:=(VS.trans (q3.2.2 c.H.length)).vals (.fI l) (.func (.yield b) #[] #[]) (by simpa [AV.bp] using SA) (.fI l b hb)
  cases this with
  | fI _ _ hs=>exact hs
 obtain ⟨e2,s2,adI,H2,y,y7,hy,hvy,adJ⟩:∃ e2 s2,ex (comp P yG r.body) c.H.length ⟨s1.tmps,H1⟩=some (e2,s2)/\∃ H2 y,jH .busy y s2.H l=some H2/\y=(match e2 with | .normal=> .ready | e=> .done e)/\v= .bool (match e2 with | .normal=>true | _=>false)/\H2=H':=by
  split at hr
  ·rename_i s2 h2;split at hr
   case h_2=>simp at hr
   rename_i H2 y7;simp only [za1,za4] at hr;exact ⟨.normal,s2,h2,H2,_,y7,rfl,hr.1.symm,hr.2⟩
  ·rename_i e2 s2 hne h2;split at hr
   case h_2=>simp at hr
   rename_i H2 y7;simp only [za1,za4] at hr
   cases e2 with
   | normal=>exact (hne rfl).elim
   | exit i=>exact ⟨.exit i,s2,h2,H2,_,y7,rfl,hr.1.symm,hr.2⟩
   | ret=>exact ⟨.ret,s2,h2,H2,_,y7,rfl,hr.1.symm,hr.2⟩
  ·simp at hr
 subst adJ;refine fX yG r.body (some b) (.inr EC) (fun _=>True) _ d2 c.H.length _ e2 s2 a1 EH Cv adI _ fun d3 a3 hd3 hf3=>?_
 rw [<-hd3.hH] at y7;obtain ⟨r3,m1,m2,m3⟩:=ux hd3.sr y7;have oQ:∃ o,d3.H[l]?=some o/\o.sp=true:=by
  unfold jH at y7;split at y7
  ·rename_i hq;exact ⟨_,hq,rfl⟩
  ·simp at y7
 obtain ⟨o3,adK,ho3⟩:=oQ;have X0:b=d3.ι l:=hf3.wR SA adH adK ho3;rw [<-X0] at m1;have fin:∀ jump:Option Code,LsR y (if jump.isNone then .ready else .done) jump->v= .bool jump.isNone->∃ v' w',(Instr.endRound b jump).run P d3.w= .ok v' w'/\∃ u,∃ d:Ctx,Ending.returned v'= .returned u/\d.w=w'/\d.H=H2/\SR (fo P F) d/\cW c.H.length c d/\V d v u:=by
  intro jump hst hvj;obtain ⟨d4,n1,n2,n3,_⟩:=m3 { r3 with state:=if jump.isNone then .ready else .done,pending:=jump } rfl rfl rfl rfl hst;rw [<-X0] at n1;refine ⟨_,_,run_endRound (P:=P) jump m1,_,d4,rfl,n1,n2,n3.1,?_,by rw [hvj];exact .bool _⟩;exact ((VS.trans (q3.2.2 _)).trans hf3).trans (n3.2.2 _)
 cases e2 with
 | normal=>exact fin none (by rw [hy];exact ⟨rfl,rfl⟩) hvy
 | ret=>exact fin (some .ret) (by rw [hy];exact ⟨rfl,rfl,by simp⟩) hvy
 | exit i=>exact fin (some (.exit i)) (by rw [hy];exact ⟨rfl,rfl,by simp⟩) hvy
end
end Go.Am
end
