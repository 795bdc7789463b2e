/- Parts of my machine and its laws, joined: AmW AmXr. No condition. -/
import Derived.Test.YtafgdbaekppjcaaGreatDoorAmU
import Derived.RangeFuncRecord
import Derived.RangeFuncIn
import Derived.RangeFuncSeq
set_option linter.unusedSectionVars false
set_option linter.unusedVariables false
set_option linter.unusedSimpArgs false
section
namespace Go.Am
structure afe (G:Nat->Prop) (w w':World):Prop where
 size:w.heap.size<=w'.heap.size
 keep:∀ b:Nat,b < w.heap.size->¬ G b->w'.heap[b]?=w.heap[b]?
 same:c7 w w'
abbrev fo (P:Program) (F:Nat->Prop):Fo:=⟨F,CR P⟩
structure gU (P:Program) (E:Env):Prop where
 fns:∀ f rf,E.fns f=some rf->∃ fn hs,P.funcs[f]?=some fn/\xh P hs rf.nargs fn=some rf
 aI:∀ g,AV.aS 0 (E.aI g)=true
def qS:Ex->Exit
 | .normal=> .normal
 | .exit id=> .exit id
 | .ret=> .ret
def wd (ρ:Option Nat):Fence:={ Fence.wide with round:=ρ }
theorem uE {ρ:Option Nat} {n:Nat} {P:Program} {f:FuncId} {args:Array Value} {w:World} {R:Ending->World->Prop} (h:Calls P f args w R):CallsIn (wd ρ) n P f args w R:=
 (callsIn_wide (n:=n)).2 h
def yx (P:Program) (E:Env) (ex:EX) (rc:RC) (code:Code):Prop:=
 ∀ (ρ:Option Nat),(ρ=none\/lV code=true)->∀ (lo:Nat->Prop) (F:Nat->Prop) (c:Ctx) (base:Nat) (s:St) (e:Ex) (s':St) (a:Act),FR lo (fo P F) E.aI c s a->base<=c.H.length->ex rc base s=some (e,s')->
  ∀ Q:Exit->Act->World->Prop,(∀ d a',FR lo (fo P F) E.aI d s' a'->cM base c d->Q (qS e) a' d.w)->code.wpIn (wd ρ) 0 P Q a c.w
section
variable {P:Program} {E:Env} {ex:EX}
theorem BG {F:Nat->Prop} {c:Ctx} {rf:RF} {fn:Func} (kM:SR (fo P F) c) (Ah:gy c E.aI) {xs:List AV} {vs:List Value} (hl:vs.length=xs.length)
 (hv:∀ i (hi:i < xs.length) (hj:i < vs.length),V c xs[i] vs[i]) (hnt:rf.ntmps=fn.ntmps):
 FR (fun b=>c.w.heap.size<=b) (fo P F) E.aI c ⟨start rf xs,c.H⟩ { tmps:=vs.toArray++Array.replicate (fn.ntmps - vs.toArray.size) undef,defers:=[] }:=by
 refine ⟨kM,⟨by simp [start,hl,hnt],fun i hi hj=>?_⟩,rfl,Marks.nil (fun _ h=>h),Ah⟩;simp only [start];by_cases h:i < xs.length
 ·rw [List.getElem_append_left h,Array.getElem_append_left (by simp;omega)];simpa using hv i h (by omega)
 ·rw [List.getElem_append_right (by omega),Array.getElem_append_right (by simp;omega)];simp only [List.getElem_replicate,Array.getElem_replicate];exact .any _
theorem x7 {c:Ctx} {s:St} {a:Act} {fn:Func} (hr:HR c) (ht0:TR c s.tmps a.tmps) (hHs:c.H=s.H) {rs:List (Sum Nat (Nat×Nat×Bool))} (hc:iF P fn.results.toList=some rs)
 {l:List AV} (hl:cF rs s=some l):∃ v,(results fn a.tmps).run P c.w= .ok v c.w/\V c (oneOf l) v:=by
 have slot:∀ t,V c (s.tmps.getD t .any) (a.tmps.getD t undef):=by
  intro t;by_cases ht:t < s.tmps.length
  ·have ht':t < a.tmps.size:=by rw [ht0.1];exact ht
   rw [List.getD_eq_getElem?_getD,List.getElem?_eq_getElem ht,Option.getD_some,Array.getD_eq_getD_getElem?,Array.getElem?_eq_getElem ht',Option.getD_some];exact ht0.2 t ht ht'
  ·rw [List.getD_eq_getElem?_getD,List.getElem?_eq_none (Nat.le_of_not_lt ht),Option.getD_none];exact .any _
 have key:∀ (xs:List ResultVar) (rs:List (Sum Nat (Nat×Nat×Bool))) (l:List AV),iF P xs=some rs->cF rs s=some l->
  ∃ vs:List Value,(xs.mapM (fun r:ResultVar=>(match r with | .tmp t=>pure (a.tmps.getD t undef) | .cell q t=>do loadVar t (<- asAddr (a.tmps.getD q undef)):Sem Value))).run P c.w= .ok vs c.w/\
   vs.length=l.length/\∀ i (hi:i < l.length) (hj:i < vs.length),V c l[i] vs[i]:=by
  intro xs;induction xs with
  | nil=>intro rs l h1 h2;simp [iF] at h1;subst h1;simp [cF] at h2;subst h2;exact ⟨[],by simp,rfl,by simp⟩
  | cons r xs ih=>
   intro rs l h1 h2
   cases r with
   | tmp t=>
    simp only [iF] at h1;split at h1
    case h_2=>simp at h1
    rename_i rs' h3;injection h1 with h1;subst h1
    simp only [cF] at h2;split at h2
    case h_2=>simp at h2
    rename_i l' h4;injection h2 with h2;subst h2
    obtain ⟨vs,e1,e2,e3⟩:=ih rs' l' h3 h4;refine ⟨a.tmps.getD t undef::vs,?_,by simp [e2],fun i hi hj=>?_⟩
    ·rw [List.mapM_cons];simp only [Sem.run_bind,Sem.run_pure,Result.andThen_ok];rw [e1];rfl
    ·cases i with
     | zero=>exact slot t
     | succ i=>exact e3 i (Nat.lt_of_succ_lt_succ hi) (Nat.lt_of_succ_lt_succ hj)
   | cell q t=>
    simp only [iF] at h1;split at h1
    case h_2=>simp at h1
    rename_i n ag rs' hn ha h3;injection h1 with h1;subst h1
    simp only [cF] at h2;split at h2
    case h_2=>simp at h2
    rename_i v l' hv h4;injection h2 with h2;subst h2
    obtain ⟨vs,e1,e2,e3⟩:=ih rs' l' h3 h4;rw [<-hHs] at hv;obtain ⟨u,hu,hV⟩:=IP (P:=P) hr hn ha (slot q) hv;have aeJ:∃ ad,a.tmps.getD q undef= .pointer (some ad):=by
     have hs:=slot q;revert hs hv;generalize s.tmps.getD q .any=x;generalize a.tmps.getD q undef=xv;intro hv hs;unfold loadAt at hv;split at hv
     ·cases hs;exact ⟨_,rfl⟩
     ·cases hs with
      | ax _ _ _ _ _ hp=>obtain ⟨_,ad,rfl,_⟩:=hp;exact ⟨_,rfl⟩
     ·simp at hv
    obtain ⟨ad,had⟩:=aeJ;rw [had] at hu;refine ⟨u::vs,?_,by simp [e2],fun i hi hj=>?_⟩
    ·rw [List.mapM_cons];have has:(asAddr (a.tmps.getD q undef)).run P c.w= .ok ad c.w:=by rw [had];rfl
     simp only [Sem.run_bind,has,Result.andThen_ok];simp only [Instr.loadAt,Instr.sureAddr,Sem.run_bind,Sem.run_pure,Result.andThen_ok] at hu;rw [hu];simp only [Result.andThen_ok];rw [e1];rfl
    ·cases i with
     | zero=>exact hV
     | succ i=>exact e3 i (Nat.lt_of_succ_lt_succ hi) (Nat.lt_of_succ_lt_succ hj)
 obtain ⟨vs,e1,e2,e3⟩:=key fn.results.toList rs l hc hl;refine ⟨if h:vs.toArray.size=1 then vs.toArray[0] else .tuple vs.toArray,?_,?_⟩
 ·have PG:∀ g:ResultVar->Sem Value,(∀ r,g r=(match r with | .tmp t=>pure (a.tmps.getD t undef) | .cell q t=>do loadVar t (<- asAddr (a.tmps.getD q undef))))->
   (fn.results.toList.mapM g).run P c.w= .ok vs c.w:=fun g hg=>by rw [funext hg];exact e1
  unfold results;rw [Array.mapM_eq_mapM_toList];simp only [Sem.run_bind,Sem.run_map];rw [PG _ (fun r=>by cases r<;>rfl)];rfl
 ·match l,vs,e2,e3 with
  | [x],[v],_,e3=>simpa [oneOf] using e3 0 (by simp) (by simp)
  | [],[],_,_=>exact .bk [] #[] rfl fun i hi=>by simp at hi
  | x::y::l,v::u::vs,e2,e3=>
   have:oneOf (x::y::l)= .bk (x::y::l):=rfl;rw [this,dif_neg (by simp)];exact .bk _ _ (by simpa using e2) fun i hi hj=>e3 i hi (by simpa using hj)
theorem jq {hs:List (Nat×Hint)} {n:Nat} {fn:Func} {rf:RF} (h:xh P hs n fn=some rf):
 ∃ code,fn.body=some code/\(fn.name== "runtime.NumGoroutine")=false/\iF P fn.results.toList=some rf.results/\rf.body=comp P hs code/\rf.ntmps=fn.ntmps/\rf.nargs=n:=by
 unfold xh at h;split at h
 case h_2=>simp at h
 rename_i code rs hb hr;split at h
 ·simp at h
 ·rename_i hn;injection h with h;subst h
  exact ⟨code,hb,by simpa using hn,hr,rfl,rfl,rfl⟩
structure yW (w w':World):Prop where
 size:w'.heap.size=w.heap.size
 same:c7 w w'
 keep:∀ b:Nat,w'.heap[b]?=w.heap[b]?\/∃ x:Option (List Deferred),w.heap[b]?=some (Go.Obj.deferred x)
theorem c7.putObj {w:World} {D:Nat} {o o':Go.Obj} (h:w.heap[D]?=some o) (h1:∀ cells elem q,o≠Go.Obj.cells cells elem q) (h2:∀ cells elem q,o'≠Go.Obj.cells cells elem q):c7 w (w.putObj D o'):=by
 refine ⟨rfl,rfl,rfl,fun a=>?_⟩;have hlt:D < w.heap.size:=by
  rcases Nat.lt_or_ge D w.heap.size with e | e
  ·exact e
  ·rw [Array.getElem?_eq_none e] at h;simp at h
 unfold World.frozen?;by_cases e:a.block=D
 ·rw [e,World.putObj_heap_same hlt,h]
  cases o<;>cases o'<;>first | rfl | (exact absurd rfl (h1 _ _ _)) | (exact absurd rfl (h2 _ _ _))
 ·rw [World.putObj_heap_other e]
theorem lA {fn:Func} {tmps:Array Value} {R:Ending->World->Prop}:∀ (Ds:List Nat) (w:World),Ds.Nodup->(∀ D∈Ds,w.heap[D]?=some (.deferred (some [])))->
 (∀ w',yW w w'->(∀ b:Nat,w'.heap[b]?=w.heap[b]?\/b∈Ds)->∃ v,(results fn tmps).run P w'= .ok v w'/\R (.returned v) w')->
 LeavesInM Fence.wide 0 P fn tmps R (Ds.map fun D=>({ target:= .collected D,args:=#[] }:Deferred)) .returning w
 | [],w,_,_,h=>h w ⟨rfl,c7.refl _,fun _=> .inl rfl⟩ (fun _=> .inl rfl)
 | D::Ds,w,hn,hw,h=>by
  have hD:=hw D (by simp);have hlt:D < w.heap.size:=by
   rcases Nat.lt_or_ge D w.heap.size with e | e
   ·exact e
   ·rw [Array.getElem?_eq_none e] at hD;simp at hD
  rw [List.nodup_cons] at hn;refine ⟨by simp,.inl ⟨D,_,rfl,run_takeDeferred hD,?_⟩⟩;refine lA Ds _ hn.2 (fun D' Pz=>?_) fun w' hs hk=>?_
  ·rw [World.putObj_heap_other (show D'≠D from fun e=>hn.1 (by rw [<-e];exact Pz))];exact hw D' (by simp [Pz])
  ·refine h w' ⟨by rw [hs.size,World.putObj_size],(c7.putObj hD (by simp) (by simp)).trans hs.same,fun b=>?_⟩ fun b=>?_
   ·by_cases e:b=D
    ·exact .inr ⟨_,by rw [e];exact hD⟩
    ·rcases hs.keep b with h1 | ⟨x,h1⟩
     ·rw [World.putObj_heap_other e] at h1;exact .inl h1
     ·rw [World.putObj_heap_other e] at h1;exact .inr ⟨x,h1⟩
   ·by_cases e:b=D
    ·exact .inr (by simp [e])
    ·rcases hk b with h1 | h1
     ·rw [World.putObj_heap_other e] at h1;exact .inl h1
     ·exact .inr (by simp [h1])
theorem yW.V {c:Ctx} {w':World} (h:yW c.w w') {x:AV} {v:Value} (hx:V c x v):V { c with w:=w' } x v:=by
 refine V.D9 (c:=c) (d:={ c with w:=w' }) (fun b o u hb hc=>⟨?_,hb⟩) (fun _ _ _ _ _ h=>h) (fun _ _ _ _ _ h=>h) (fun _ _ _ _ _ _ h=>h) (fun _ _ h=>h) hx;rcases h.keep b with e | ⟨x,e⟩
 ·unfold World.cell? at hc ⊢;simp only [e];exact hc
 ·unfold World.cell? at hc;simp [e] at hc
theorem yW.hr {c:Ctx} {w':World} (h:yW c.w w') (hr:HR c):HR { c with w:=w' }:=by
 refine ⟨?_,hr.inj⟩;intro id nl sz es h1 h2;obtain ⟨cells,elem,g1,g2,g3,g4,g5⟩:=hr.back id nl sz es h1 h2;refine ⟨cells,elem,?_,g2,g3,g4,fun i hi=>⟨(g5 i hi).1,fun j hj=>?_⟩⟩
 ·rcases h.keep (c.ι id) with e | ⟨x,e⟩
  ·exact e.trans g1
  ·rw [g1] at e;simp at e
 ·obtain ⟨u,hu,hv⟩:=(g5 i hi).2 j hj;exact ⟨u,hu,h.V hv⟩
theorem yW.x {cr:RC->Code->Prop} {c:Ctx} {w':World} (h:yW c.w w') (hx:XR cr c):XR cr { c with w:=w' }:=by
 refine ⟨fun id o h1 h2=>?_,hx.xi⟩;obtain ⟨wo,g1,g2⟩:=hx.xr id o h1 h2;refine ⟨wo,?_,g2.mono fun x v hv=>h.V hv⟩;rcases h.keep (c.ι id) with e | ⟨x,e⟩
 ·exact e.trans g1
 ·rw [g1] at e;injection e with e;exact (g2.Eb _ e).elim
theorem yW.nI {c d:Ctx} {w':World} {n:Nat} (h:yW d.w w') (hf:cM n c d) (hk:∀ b:Nat,b < c.w.heap.size->w'.heap[b]?=d.w.heap[b]?):cM n c { d with w:=w' }:=
 ⟨by rw [h.size];exact hf.size,fun b hb hn hs=>(hk b hb).trans (hf.keep b hb hn hs),fun x v hb hx=>h.V (hf.vals x v hb hx),hf.owned,hf.len,hf.same.trans h.same,hf.jc⟩
theorem vj (ck:gU P E) (fu:∀ hs code,yx P E ex (comp P hs code) code) {f:Nat} {xs:List AV} {r:AV} (h:lO E.fns ex f xs=some r)
 {F:Nat->Prop} {c:Ctx} (kM:SR (fo P F) c) (hH:c.H=[]) (Ah:gy c E.aI) {vs:List Value} (hl:vs.length=xs.length) (hv:∀ i (hi:i < xs.length) (hj:i < vs.length),V c xs[i] vs[i]):
 Calls P f vs.toArray c.w fun e w'=>∃ v,e= .returned v/\(c.w.heap.size<=w'.heap.size/\c7 c.w w')/\(∀ b,b < c.w.heap.size->w'.heap[b]?=c.w.heap[b]?)/\r.bA 0=true/\
  ∀ c':Ctx,c'.w=w'->(∀ b,c'.O b->F b)->V c' r v:=by
 unfold lO at h;split at h
 case h_2=>simp at h
 rename_i rf qG;split at h
 case isFalse=>
  exfalso;unfold TD at h;split at h
  case h_2=>simp at h
  cases vs with
  | nil=>simp at hl
  | cons v vs=>
   have h0:=hv 0 (by simp) (by simp)
   cases h0 with
   | ax _ _ _ _ _ h0=>have:=h0.1.1;rw [hH] at this;simp at this
 rename_i hna;obtain ⟨fn,hs,hf,hc⟩:=ck.fns f rf qG;obtain ⟨code,hb,_,hres,hbody,hnt,_⟩:=jq hc;have hfr:=BG (E:=E) (rf:=rf) (fn:=fn) kM Ah hl hv hnt;rw [hH] at hfr;refine (callsIn_wide (n:=0)).1 (callsIn_of_wp_marks hf hb trivial ?_);have fin:∀ (s':St) (l:List AV),cF rf.results s'=some l->pack s'.H (oneOf l)=some r->∀ d a',FR (fun b=>c.w.heap.size<=b) (fo P F) E.aI d s' a'->cM 0 c d->
  LeavesInM Fence.wide 0 P fn a'.tmps (fun e w'=>∃ v,e=Ending.returned v/\(c.w.heap.size<=w'.heap.size/\c7 c.w w')/\(∀ b,b < c.w.heap.size->w'.heap[b]?=c.w.heap[b]?)/\r.bA 0=true/\
   ∀ c':Ctx,c'.w=w'->(∀ b,c'.O b->F b)->V c' r v) a'.defers .returning d.w:=by
  intro s' l h1 h2 d0 a' yH Im;obtain ⟨_,Ds,m1,m2,m3⟩:=yH.df;rw [m2];refine lA Ds d0.w m1 (fun D hD=>(m3 D hD).2) fun w' hs hk=>?_
  have aT:cM 0 c { d0 with w:=w' }:=hs.nI Im fun b hb=>(hk b).elim id fun hD=>by have:=(m3 b hD).1;omega
  have TQ:=hs.hr yH.sr.hr;have TL:TR { d0 with w:=w' } s'.tmps a'.tmps:=⟨yH.tr.1,fun i hi hj=>hs.V (yH.tr.2 i hi hj)⟩;obtain ⟨v,e1,e2⟩:=x7 (P:=P) (c:={ d0 with w:=w' }) TQ TL yH.hH hres h1;have hp:∀ c':Ctx,c'.w=w'->(∀ b,c'.O b->F b)->V c' r v/\r.bA 0=true:=by
   intro c' hw hO;exact Ry (c:={ d0 with w:=w' }) TQ ⟨hw,fun b hb=>(yH.sr.hO b).2 (.inl (hO b hb)),fun b ho hb=>yH.sr.eD b ho (hO b hb)⟩ e2 (by rw [show ({ d0 with w:=w' }:Ctx).H=s'.H from yH.hH];exact h2)
  refine ⟨v,e1,v,rfl,⟨aT.size,aT.same⟩,fun b hb=>aT.keep b hb ?_ ?_,?_,fun c' hw hO=>(hp c' hw hO).1⟩
  ·rintro ⟨id,nl,sz,es,h3,_⟩;rw [hH] at h3;simp at h3
  ·rintro ⟨id,o,h3,_⟩;rw [hH] at h3;simp at h3
  ·exact (hp ⟨w',fun _=>False,fun _=>0,fun _=>0,[]⟩ rfl (fun b hb=>hb.elim)).2
 split at h
 ·simp at h
 ·rename_i e s' hne hex;split at h
  case h_2=>simp at h
  rename_i l hl';rw [hbody] at hex;refine fu hs code none (.inl rfl) _ F c 0 _ e s' _ hfr (Nat.zero_le _) hex _ fun d a' hd aT=>?_
  cases e with
  | exit id=>exact (hne id rfl).elim
  | normal=>exact fin s' l hl' h d a' hd aT
  | ret=>exact fin s' l hl' h d a' hd aT
 ·simp at h
theorem uD (ck:gU P E) (fu:∀ hs code,yx P E ex (comp P hs code) code) {f:Nat} {xs:List AV} {r:AV} {H':List Obj} {F:Nat->Prop} {c:Ctx}
 (h:yy E.fns ex (some f) xs c.H=some (r,H')) (kM:SR (fo P F) c) (Ah:gy c E.aI) {vs:List Value} (hl:vs.length=xs.length) (hv:∀ i (hi:i < xs.length) (hj:i < vs.length),V c xs[i] vs[i]):
 Calls P f vs.toArray c.w fun e w'=>∃ v,∃ d:Ctx,e= .returned v/\d.w=w'/\d.H=H'/\SR (fo P F) d/\cM c.H.length c d/\V d r v:=by
 unfold yy at h;dsimp only at h;split at h
 case h_2=>simp at h
 rename_i rf qG;split at h
 case isFalse=>simp at h
 rename_i hna;obtain ⟨fn,hs,hf,hc⟩:=ck.fns f rf qG;obtain ⟨code,hb,_,hres,hbody,hnt,_⟩:=jq hc;have hfr:=BG (E:=E) (rf:=rf) (fn:=fn) kM Ah hl hv hnt;refine (callsIn_wide (n:=0)).1 (callsIn_of_wp_marks hf hb trivial ?_);have fin:∀ (s':St) (l:List AV),cF rf.results s'=some l->oneOf l=r->s'.H=H'->∀ d a',FR (fun b=>c.w.heap.size<=b) (fo P F) E.aI d s' a'->cM c.H.length c d->
  LeavesInM Fence.wide 0 P fn a'.tmps (fun e w'=>∃ v,∃ d:Ctx,e=Ending.returned v/\d.w=w'/\d.H=H'/\SR (fo P F) d/\cM c.H.length c d/\V d r v) a'.defers .returning d.w:=by
  rintro s' l h1 rfl rfl d0 a' yH Im;obtain ⟨_,Ds,m1,m2,m3⟩:=yH.df;rw [m2];refine lA Ds d0.w m1 (fun D hD=>(m3 D hD).2) fun w' hs hk=>?_
  have aT:cM c.H.length c { d0 with w:=w' }:=hs.nI Im fun b hb=>(hk b).elim id fun hD=>by have:=(m3 b hD).1;omega
  have TQ:=hs.hr yH.sr.hr;have TL:TR { d0 with w:=w' } s'.tmps a'.tmps:=⟨yH.tr.1,fun i hi hj=>hs.V (yH.tr.2 i hi hj)⟩;obtain ⟨v,e1,e2⟩:=x7 (P:=P) (c:={ d0 with w:=w' }) TQ TL yH.hH hres h1;exact ⟨v,e1,v,{ d0 with w:=w' },rfl,rfl,yH.hH,⟨TQ,yH.sr.hO,fun b hb=>by rw [show ({ d0 with w:=w' }:Ctx).w=w' from rfl,hs.size];exact yH.sr.hF b hb,yH.sr.eD,hs.x yH.sr.x⟩,aT,e2⟩
 split at h
 ·simp at h
 ·rename_i e s' hne hex;split at h
  case h_2=>simp at h
  rename_i l hl';simp only [Option.some.injEq,Prod.mk.injEq] at h;rw [hbody] at hex;refine fu hs code none (.inl rfl) _ F c c.H.length _ e s' _ hfr (Nat.le_refl _) hex _ fun d a' hd aT=>?_
  cases e with
  | exit id=>exact (hne id rfl).elim
  | normal=>exact fin s' l hl' h.1 h.2 d a' hd aT
  | ret=>exact fin s' l hl' h.1 h.2 d a' hd aT
 ·simp at h
theorem Gn {H:List Obj} {a b c d:Nat}:∀ {n:Nat} {x:AV},pk n H x=some (.ax a b c d)->False
 | 0,x,h=>by
  unfold pk at h;split at h
  ·rename_i hr;injection h with h;subst h
   simp [AV.eS,AV.bA] at hr
  ·simp at h
 | n+1,x,h=>by
  unfold pk at h;split at h
  ·rename_i hr;injection h with h;subst h
   simp [AV.eS,AV.bA] at hr
  ·split at h<;>(try (simp at h;done))<;>(repeat' split at h)<;>(try (simp at h;done));injection h with h
   unfold qJ at h
   (repeat' split at h)<;>simp at h
theorem DG {H:List Obj} {x:AV} {a b c d:Nat} {l:List AV} (h:pack H x=some (.bk (.ax a b c d::l))):False:=by
 unfold pack pk at h;split at h
 ·rename_i hr;injection h with h;subst h
  simp [AV.eS,AV.bA,AV.aS] at hr
 ·split at h
  case h_4=>
   rename_i cs hc;split at h
   case h_2=>simp at h
   rename_i l' hm;injection h with h
   injection h with h
   subst h
   cases cs with
   | nil=>simp [eR] at hm
   | cons y ys=>
    rw [eR] at hm;split at hm
    case h_2=>simp at hm
    rename_i z zs hz _;simp only [Option.some.injEq,List.cons.injEq] at hm;obtain ⟨rfl,_⟩:=hm;exact Gn hz
  all_goals (try (simp at h;done))<;>(repeat' split at h)<;>(try (simp at h;done))
  injection h with h
  unfold qJ at h
  (repeat' split at h)<;>simp at h
theorem DH {F:Fo} {c:Ctx} (kM:SR F c) (w':World) (hsz:c.w.heap.size<=w'.heap.size) (GN:c7 c.w w') (hkeep:∀ b,b < c.w.heap.size->w'.heap[b]?=c.w.heap[b]?):
 SR F { c with w:=w' }/\(∀ x v,V c x v->V { c with w:=w' } x v)/\∀ n,cM n c { c with w:=w' }:=by
 have hlt:∀ b,(c.w.heap[b]?).isSome->b < c.w.heap.size:=by
  intro b hs;rcases Nat.lt_or_ge b c.w.heap.size with e | e
  ·exact e
  ·rw [Array.getElem?_eq_none e] at hs;simp at hs
 have hV:∀ x v,V c x v->V { c with w:=w' } x v:=fun x v hx=>
  V.mono (c:=c) (d:={ c with w:=w' }) (fun b hb hs=>⟨hkeep b (hlt b hs),hb⟩) (fun _ _ _ _ _ h=>h) (fun _ _ _ _ _ h=>h) (fun _ _ _ _ _ _ h=>h) (fun _ _ h=>h) hx
 refine ⟨⟨⟨?_,kM.hr.inj⟩,kM.hO,fun b hf=>Nat.lt_of_lt_of_le (kM.hF b hf) hsz,kM.eD,kM.x.keep (fun id o h1 h2=>⟨h1,rfl,hkeep _ (kM.nU h1 h2).1⟩) hV⟩,hV,fun n=>⟨hsz,fun b hb _ _=>hkeep b hb,fun x v _ hx=>hV x v hx,fun b ho=> .inl ho,fun h=>h,GN,fun b hb=> .inl hb⟩⟩;intro id nl sz es h1 h2;obtain ⟨cells,elem,g1,g2,g3,g4,g5⟩:=kM.hr.back id nl sz es h1 h2;have hb:c.ι id < c.w.heap.size:=hlt _ (by rw [g1];rfl);refine ⟨cells,elem,by rw [hkeep _ hb];exact g1,g2,g3,g4,fun i hi=>⟨(g5 i hi).1,fun j hj=>?_⟩⟩;obtain ⟨u,hu,TS⟩:=(g5 i hi).2 j hj;exact ⟨u,hu,hV _ _ TS⟩
theorem x8:∀ {l:List AV},AV.iX l=true->∀ i (hi:i < l.length),l[i].flat=true
 | [],_,i,hi=>by simp at hi
 | x::l,h,i,hi=>by
  simp only [AV.iX,Bool.and_eq_true] at h
  cases i with
  | zero=>exact h.1
  | succ i=>exact x8 h.2 i (by simpa using hi)
theorem KT (ck:gU P E) (fu:∀ hs code,yx P E ex (comp P hs code) code) {f pl:Nat} {xs:List AV} {r:AV} {H':List Obj} {F:Nat->Prop} {c:Ctx}
 (h:mkObj (lO E.fns ex) f xs pl c.H=some (r,H')) (cZ:Room c.H pl) (kM:SR (fo P F) c) (Ah:gy c E.aI) {vs:List Value} (hl:vs.length=xs.length)
 (hv:∀ i (hi:i < xs.length) (hj:i < vs.length),V c xs[i] vs[i]):
 Calls P f vs.toArray c.w fun e w'=>∃ v,∃ d:Ctx,e= .returned v/\d.w=w'/\d.H=H'/\SR (fo P F) d/\(∀ x v,V c x v->V d x v)/\(∀ n,cM n c d)/\V d r v:=by
 unfold mkObj at h;split at h
 case h_2=>simp at h
 rename_i ys hys;split at h
 case h_2=>simp at h
 rename_i Yb y hcs;split at h
 case isFalse=>simp at h
 rename_i AL;have TT:=jU hys;obtain ⟨u,H2,hrun,hres⟩:∃ u H2,yy E.fns ex (some f) ys []=some (u,H2)/\pH H2 u=some (.bk [.ax 0 0 Yb 0,y]):=by
  unfold lO at hcs;split at hcs
  case h_2=>simp at hcs
  rename_i rf qG;split at hcs
  ·rename_i hlen;split at hcs
   ·simp at hcs
   ·split at hcs
    case h_2=>simp at hcs
    rename_i hr;exact (DG hcs).elim
   ·simp at hcs
  ·unfold TD at hcs;split at hcs
   case h_2=>simp at hcs
   rename_i as heq;injection heq with _ heq
   subst heq;split at hcs
   case isFalse=>simp at hcs
   rename_i hlen;split at hcs
   ·simp at hcs
   ·rename_i e s' hne hex;split at hcs
    case h_2=>simp at hcs
    rename_i u hres;refine ⟨u,s'.H,?_,hcs⟩;unfold yy;dsimp only;rw [qG];dsimp only;rw [if_pos hlen];simp only [List.length_nil];rw [hex]
    cases e with
    | exit i=>exact (hne i rfl).elim
    | normal=>dsimp only;rw [hres];rfl
    | ret=>dsimp only;rw [hres];rfl
   ·simp at hcs
 have hno:∀ b,¬ bB ([]:List Obj) c.ι b:=by rintro b ⟨id,nl,sz,es,h1,_⟩;simp at h1
 have QO:∀ b,c.O b->b < c.w.heap.size:=by
  intro b hb;rcases (kM.hO b).1 hb with h1 | ⟨id,nl,sz,es,h1,h2,h3⟩
  ·exact kM.hF b h1
  ·obtain ⟨cells,elem,g1,_⟩:=kM.hr.back id nl sz es h1 h2;rw [h3] at g1;obtain ⟨h4,_⟩:=Array.getElem?_eq_some_iff.1 g1;exact h4
 obtain ⟨O0,hO0,PS,FJ,TF,AL⟩:∃ O0:Nat->Prop,(∀ b,O0 b->b < c.w.heap.size)/\(∀ x v,x.bA 0=true->V c x v->V ⟨c.w,O0,c.ι,c.K,[]⟩ x v)/\
  (∀ i (hi:i < ys.length) (hj:i < vs.length),V ⟨c.w,O0,c.ι,c.K,[]⟩ ys[i] vs[i])/\vs.length=ys.length/\(O0=c.O\/uf y=true):=by
  by_cases hfree:AV.aS 0 xs=true
  ·have Yc:=A7 c.H xs ys hfree TT;subst Yc;have PS:∀ x v,x.bA 0=true->V c x v->V ⟨c.w,c.O,c.ι,c.K,[]⟩ x v:=fun x v hb hx=>
    V.monoB (c:=c) (d:=⟨c.w,c.O,c.ι,c.K,[]⟩) 0 (fun b hb _=>⟨rfl,hb⟩) (fun _ _ _ _ _ h=>by omega) (fun _ _ _ _ _ h=>by omega) (fun _ _ _ _ _ _ h=>by omega) (fun _ _ h=>by omega) hx hb
   exact ⟨c.O,QO,PS,fun i hi hj=>PS _ _ (cE hfree i hi) (hv i hi hj),hl,.inl rfl⟩
  ·have hfl:uf y=true:=by
    cases hb:AV.aS 0 xs with
    | true=>exact (hfree hb).elim
    | false=>rw [hb] at AL;simpa using AL
   have AM:Ao c ⟨c.w,fun _=>False,c.ι,c.K,[]⟩:=⟨rfl,fun b hb=>hb.elim,fun b _ hb=>hb⟩;obtain ⟨e1,e2,e3⟩:=EO kM.hr AM xs ys vs hl hv TT;exact ⟨fun _=>False,fun b hb=>hb.elim,fun x v hb hx=>AM.free hb hx,e2,by omega,.inr hfl⟩
 let c0:Ctx:=⟨c.w,O0,c.ι,c.K,[]⟩;have Hx:SR (fo P O0) c0:=
  ⟨⟨fun id nl sz es h1=>by simp [c0] at h1,fun id id' _ _ _ _ _ _ h1=>by simp [c0] at h1⟩,fun b=>⟨fun h=> .inl h,fun h=>h.elim (fun h=>h) (fun h=>(hno b h).elim)⟩,hO0,fun b h=>(hno b h).elim,.nil rfl⟩
 have aeK:gy c0 E.aI:=fun g=>PS _ _ (by simp only [AV.bA]) (Ah g)
 refine (uD ck fu (c:=c0) hrun Hx aeK TF FJ).mono ?_;rintro e w' ⟨v,d0,rfl,rfl,hdH,Ms,aT,Xh⟩;have hkeep:∀ b,b < c.w.heap.size->d0.w.heap[b]?=c.w.heap[b]?:=fun b hb=>aT.keep b hb (hno b) (by rintro ⟨id,o,h1,_⟩;simp [c0] at h1)
 have o4:∀ o:Obj,o≠ .gB->c.H[pl]?≠some o:=by
  intro o ho e;rcases cZ with h1 | h1
  ·rw [h1] at e;injection e with e;exact ho e.symm
  ·rw [h1] at e;simp at e
 have put:∀ (j:Nat) (fl:Fl) (sz:Nat) (es:List (List AV)),d0.H[j]?=some (.live fl sz es)->¬(fl= .nil/\es=[])->AV.bM 0 es=true->(O0=c.O\/es.all AV.iX=true)->
  ∃ d:Ctx,d.w=d0.w/\d.H=putObj c.H pl (.live .norm sz es)/\SR (fo P F) d/\(∀ x v,V c x v->V d x v)/\(∀ n,cM n c d)/\d.ι pl=d0.ι j/\d.K pl=d0.K j:=by
  intro j fl sz es D7 hne CE Yd;obtain ⟨cells,elem,g1,g2,g3,g4,g5⟩:=Ms.hr.back j _ _ _ D7 hne;have hown:bB d0.H d0.ι (d0.ι j):=⟨j,_,_,_,D7,hne,rfl⟩;have hge:c.w.heap.size<=d0.ι j:=(aT.owned _ hown).elim (fun h=>(hno _ h).elim) fun h=>h
  exact UM kM pl (d0.ι j) (d0.K j) .norm sz es cells elem d0.w (putObj c.H pl (.live .norm sz es))
   (uj _) (cA cZ _) (fun j hj=> .inl (kB cZ _ j hj)) (o4 _ (by simp)) (Io o4) (fun bU bt bw hs=>(o4 _ (by simp) hs).elim) (by simp) aT.same aT.size
   (fun b hb _=>hkeep b hb) g1 (.inl hge) (fun j' bU bt bw _ hs hbk he=>by
    obtain ⟨cl,el,q1,_⟩:=kM.hr.back j' _ _ _ hs hbk;obtain ⟨h4,_⟩:=Array.getElem?_eq_some_iff.1 q1;omega) g2 g3 (fun i hi=>⟨(g5 i hi).1,fun q hq=>by
     obtain ⟨u,hu,Lt⟩:=(g5 i hi).2 q hq;refine ⟨u,hu,.inr fun d hdw hdO=>?_⟩;rcases Yd with rfl | Yd
     case inr=>exact IK Lt (x8 (List.all_eq_true.1 Yd _ (List.getElem_mem hi)) q hq)
     have hb0:(es[i][q]).bA 0=true:=cE (gI CE i hi) q hq;refine V.monoB (c:=d0) (d:=d) 0 (fun b hb _=>⟨by rw [hdw],fun hd=>hb ?_⟩) (fun _ _ _ _ _ h=>by omega) (fun _ _ _ _ _ h=>by omega) (fun _ _ _ _ _ _ h=>by omega) (fun _ _ h=>by omega) Lt hb0;rcases hdO b hd with e | e
     ·exact (Ms.hO b).2 (.inl e)
     ·rw [e];exact (Ms.hO _).2 (.inr hown)⟩)
 have Fj:v= .slice none 0 0->r= .bx->H'=c.H->∃ v',∃ d:Ctx,Ending.returned v= .returned v'/\d.w=d0.w/\d.H=H'/\SR (fo P F) d/\(∀ x v,V c x v->V d x v)/\(∀ n,cM n c d)/\V d r v':=by
  rintro rfl rfl rfl;obtain ⟨b1,b2,b3⟩:=DH kM d0.w aT.size aT.same hkeep;exact ⟨_,{ c with w:=d0.w },rfl,rfl,rfl,b1,b2,b3,.bx⟩
 unfold pH at hres;split at hres
 ·rename_i j;split at hres
  case h_2=>simp at hres
  rename_i sz cs hj;split at hres
  case isFalse=>simp at hres
  rename_i hb;simp only [Option.some.injEq,AV.bk.injEq,List.cons.injEq,AV.ax.injEq,and_true,true_and] at hres;obtain ⟨rfl,rfl⟩:=hres;simp only [ue,Option.some.injEq,Prod.mk.injEq] at h;obtain ⟨rfl,rfl⟩:=h;have D7:d0.H[j]?=some (.live .norm sz [cs]):=by rw [hdH];exact hj
  obtain ⟨cells,elem,g1,g2,g3,g4,g5⟩:=Ms.hr.back j _ _ _ D7 (by simp);have hsz:cs.length=sz:=(g5 0 (by simp)).1;subst hsz;obtain ⟨d,k1,k2,k3,k4,k5,k6,k7⟩:=put j .norm cs.length [cs] D7 (by simp) (by simp [AV.bM,hb]) (AL.imp id fun h=>by simpa [uf] using h);refine ⟨v,d,rfl,k1,k2,k3,k4,k5,?_⟩
  cases Xh with
  | ax _ _ _ _ _ hp=>
   obtain ⟨_,a,rfl,hsp,hp⟩:=hp;have Xf:=(hp _ _ _ D7).2 (by simp);refine .ax _ _ _ _ _ ⟨by rw [Has,k2];exact ⟨ou cZ _,by rw [cA cZ];simp⟩,a,rfl,hsp,fun nl sz es hs=>?_⟩;rw [k2,cA cZ] at hs;simp at hs;obtain ⟨_,rfl,rfl⟩:=hs;exact ⟨by simp,fun _=>by rw [Xf,k6]⟩
 ·simp only [Option.some.injEq,AV.bk.injEq,List.cons.injEq,AV.ax.injEq,and_true,true_and] at hres;obtain ⟨rfl,rfl⟩:=hres;simp only [ue,Option.some.injEq,Prod.mk.injEq] at h;obtain ⟨rfl,rfl⟩:=h
  cases Xh;exact Fj rfl rfl rfl
 ·rename_i j ext off len;split at hres
  case h_2=>simp at hres
  rename_i fl sz es hj;split at hres
  case isFalse=>simp at hres
  rename_i hc;obtain ⟨rfl,rfl,rfl⟩:=hc;have D7:d0.H[j]?=some (.live fl sz es):=by rw [hdH];exact hj
  have slice:¬(fl= .nil/\es=[])->AV.bM 0 es=true->Yb=sz->y= .ro es->∃ v',∃ d:Ctx,Ending.returned v= .returned v'/\d.w=d0.w/\d.H=H'/\SR (fo P F) d/\(∀ x v,V c x v->V d x v)/\(∀ n,cM n c d)/\V d r v':=by
   rintro hne CE rfl rfl;simp only [ue,Option.some.injEq,Prod.mk.injEq] at h;obtain ⟨rfl,rfl⟩:=h;obtain ⟨d,k1,k2,k3,k4,k5,k6,k7⟩:=put j fl Yb es D7 hne CE (AL.imp id fun h=>by simpa only [uf] using h);refine ⟨v,d,rfl,k1,k2,k3,k4,k5,?_⟩
   cases Xh with
   | own _ _ _ _ _ ho=>
    obtain ⟨_,⟨a,cap,rfl⟩,ho⟩:=ho;obtain ⟨_,ho⟩:=ho _ _ _ D7;obtain ⟨_,ho⟩:=ho rfl;rcases ho with ⟨q1,q2,_⟩ | ⟨_,cap',q1,q2⟩
    ·exact (hne ⟨q1,q2⟩).elim
    ·injection q1 with e1 e2 e3
     subst e1;subst e3;refine .own _ _ _ _ _ ⟨by rw [Has,k2];exact ⟨ou cZ _,by rw [cA cZ];simp⟩,⟨_,_,rfl⟩,fun nl bt bw hs=>?_⟩;rw [k2,cA cZ] at hs;simp at hs;obtain ⟨rfl,rfl,rfl⟩:=hs;exact ⟨by simp,fun _=>⟨by simp,.inr ⟨by simp,cap,by rw [k6],by rw [k7,<-q2]⟩⟩⟩
  split at hres
  ·split at hres
   ·rename_i hfl;subst hfl;simp only [Option.some.injEq,AV.bk.injEq,List.cons.injEq,AV.ax.injEq,and_true,true_and] at hres;obtain ⟨rfl,rfl⟩:=hres;simp only [ue,Option.some.injEq,Prod.mk.injEq] at h;obtain ⟨rfl,rfl⟩:=h
    cases Xh with
    | own _ _ _ _ _ ho=>
     obtain ⟨_,_,ho⟩:=ho;obtain ⟨_,ho⟩:=(ho _ _ _ D7).2 rfl;rcases ho with ⟨_,_,q⟩ | ⟨q,_⟩
     ·exact Fj q rfl rfl
     ·exact (q ⟨rfl,rfl⟩).elim
   ·split at hres
    case isFalse=>simp at hres
    rename_i hfl;subst hfl;simp only [Option.some.injEq,AV.bk.injEq,List.cons.injEq,AV.ax.injEq,and_true,true_and] at hres;exact slice (by simp) rfl hres.1.symm hres.2.symm
  ·split at hres
   case isFalse=>simp at hres
   rename_i hc;simp only [Option.some.injEq,AV.bk.injEq,List.cons.injEq,AV.ax.injEq,and_true,true_and] at hres;exact slice (by simp) hc.2 hres.1.symm hres.2.symm
 ·simp at hres
theorem DI (ck:gU P E) (fu:∀ hs code,yx P E ex (comp P hs code) code) {hp:Nat->Bool} {cH:CH} (LA:cH=yy E.fns ex\/cH=j6) {f:Nat} {xs:List AV} {r:AV} {H':List Obj} {F:Nat->Prop} {c:Ctx}
 (h:bI hp (lO E.fns ex) cH f xs c.H=some (r,H')) (kM:SR (fo P F) c) (Ah:gy c E.aI) {vs:List Value} (hl:vs.length=xs.length)
 (hv:∀ i (hi:i < xs.length) (hj:i < vs.length),V c xs[i] vs[i]):
 Calls P f vs.toArray c.w fun e w'=>∃ v,∃ d:Ctx,e= .returned v/\d.w=w'/\d.H=H'/\SR (fo P F) d/\cM c.H.length c d/\V d r v:=by
 have Pg:cH (some f) xs c.H=some (r,H')->Calls P f vs.toArray c.w fun e w'=>∃ v,∃ d:Ctx,e= .returned v/\d.w=w'/\d.H=H'/\SR (fo P F) d/\cM c.H.length c d/\V d r v:=fun h'=>by
  rcases LA with rfl | rfl
  ·exact uD ck fu h' kM Ah hl hv
  ·simp [j6] at h'
 unfold bI at h;split at h
 ·exact Pg h
 ·split at h
  case h_2=>exact Pg h
  rename_i ys hys;split at h
  case h_2=>simp at h
  rename_i r' hr';split at h
  case isFalse=>simp at h
  rename_i Ph;simp only [Option.some.injEq,Prod.mk.injEq] at h;obtain ⟨rfl,rfl⟩:=h;have back:∀ w':World,(c.w.heap.size<=w'.heap.size/\c7 c.w w')->(∀ b,b < c.w.heap.size->w'.heap[b]?=c.w.heap[b]?)->
   SR (fo P F) { c with w:=w' }/\cM c.H.length c { c with w:=w' }:=by
   rintro w' ⟨hsz,GN⟩ hkeep;have hlt:∀ b,(c.w.heap[b]?).isSome->b < c.w.heap.size:=by
    intro b hs;rcases Nat.lt_or_ge b c.w.heap.size with e | e
    ·exact e
    ·rw [Array.getElem?_eq_none e] at hs;simp at hs
   have hV:∀ x v,V c x v->V { c with w:=w' } x v:=fun x v hx=>
    V.mono (c:=c) (d:={ c with w:=w' }) (fun b hb hs=>⟨hkeep b (hlt b hs),hb⟩) (fun _ _ _ _ _ h=>h) (fun _ _ _ _ _ h=>h) (fun _ _ _ _ _ _ h=>h) (fun _ _ h=>h) hx
   refine ⟨⟨⟨?_,kM.hr.inj⟩,kM.hO,fun b hf=>Nat.lt_of_lt_of_le (kM.hF b hf) hsz,kM.eD,kM.x.keep (fun id o h1 h2=>⟨h1,rfl,hkeep _ (kM.nU h1 h2).1⟩) hV⟩,⟨hsz,fun b hb _ _=>hkeep b hb,fun x v _ hx=>hV x v hx,fun b ho=> .inl ho,fun h=>h,GN,fun b hb=> .inl hb⟩⟩;intro id nl sz es h1 h2;obtain ⟨cells,elem,g1,g2,g3,g4,g5⟩:=kM.hr.back id nl sz es h1 h2;have hb:c.ι id < c.w.heap.size:=hlt _ (by rw [g1];rfl);refine ⟨cells,elem,by rw [hkeep _ hb];exact g1,g2,g3,g4,fun i hi=>⟨(g5 i hi).1,fun j hj=>?_⟩⟩;obtain ⟨u,hu,TS⟩:=(g5 i hi).2 j hj;exact ⟨u,hu,hV _ _ TS⟩
  have glb:∀ d:Ctx,(∀ x v,x.bA 0=true->V c x v->V d x v)->gy d E.aI:=fun d hd g=>hd _ _ (by simp only [AV.bA]) (Ah g)
  by_cases hfree:AV.aS 0 xs=true
  ·
   have Yc:=A7 c.H xs ys hfree hys;subst Yc;let c0:Ctx:=⟨c.w,c.O,c.ι,c.K,[]⟩;have hno:∀ b,¬ bB ([]:List Obj) c.ι b:=by rintro b ⟨id,nl,sz,es,h1,_⟩;simp at h1
   have PS:∀ x v,x.bA 0=true->V c x v->V c0 x v:=fun x v hb hx=>
    V.monoB (c:=c) (d:=c0) 0 (fun b hb _=>⟨rfl,hb⟩) (fun _ _ _ _ _ h=>by omega) (fun _ _ _ _ _ h=>by omega) (fun _ _ _ _ _ _ h=>by omega) (fun _ _ h=>by omega) hx hb
   have Hx:SR (fo P c.O) c0:=by
    refine ⟨⟨fun id nl sz es h1=>by simp [c0] at h1,fun id id' _ _ _ _ _ _ h1=>by simp [c0] at h1⟩,fun b=>⟨fun h=> .inl h,fun h=>h.elim (fun h=>h) (fun h=>(hno b h).elim)⟩,fun b hb=>?_,fun b h=>(hno b h).elim,.nil rfl⟩;rcases (kM.hO b).1 hb with h1 | ⟨id,nl,sz,es,h1,h2,h3⟩
    ·exact kM.hF b h1
    ·obtain ⟨cells,elem,g1,_⟩:=kM.hr.back id nl sz es h1 h2;rw [h3] at g1;rcases Nat.lt_or_ge b c.w.heap.size with e | e
     ·exact e
     ·rw [Array.getElem?_eq_none e] at g1;simp at g1
   refine (vj ck fu hr' Hx rfl (glb c0 PS) hl (fun i hi hj=>PS _ _ (cE hfree i hi) (hv i hi hj))).mono ?_;rintro e w' ⟨v,rfl,hsz,hkeep,_,hres⟩;obtain ⟨b1,b2⟩:=back w' hsz hkeep;exact ⟨v,{ c with w:=w' },rfl,rfl,rfl,b1,b2,hres _ rfl fun b hb=>hb⟩
  ·
   have hfl:r'.flat=true:=by
    cases hb:AV.aS 0 xs with
    | true=>exact (hfree hb).elim
    | false=>rw [hb] at Ph;simpa using Ph
   let c0:Ctx:=⟨c.w,fun _=>False,c.ι,c.K,[]⟩;have hno:∀ b,¬ bB ([]:List Obj) c.ι b:=by rintro b ⟨id,nl,sz,es,h1,_⟩;simp at h1
   have AM:Ao c c0:=⟨rfl,fun b hb=>hb.elim,fun b _ hb=>hb⟩;have Hx:SR (fo P fun _=>False) c0:=⟨⟨fun id nl sz es h1=>by simp [c0] at h1,fun id id' _ _ _ _ _ _ h1=>by simp [c0] at h1⟩,fun b=>⟨fun h=>h.elim,fun h=>h.elim (fun h=>h) (fun h=>(hno b h).elim)⟩,fun b hb=>hb.elim,fun b h=>(hno b h).elim,.nil rfl⟩;obtain ⟨e1,e2,e3⟩:=EO kM.hr AM xs ys vs hl hv hys;refine (vj ck fu hr' Hx rfl (glb c0 fun x v hb hx=>AM.free hb hx) (by omega) e2).mono ?_;rintro e w' ⟨v,rfl,hsz,hkeep,_,hres⟩;obtain ⟨b1,b2⟩:=back w' hsz hkeep;exact ⟨v,{ c with w:=w' },rfl,rfl,rfl,b1,b2,IK (hres { c0 with w:=w' } rfl fun b hb=>hb) hfl⟩
end
end Go.Am
end
section
namespace Go.Am
section
variable {P:Program} {E:Env} {ex:EX}
theorem Fc {c:Ctx}:∀ (ps:List Nat) (xs:List AV) (vs:List Value) {t:List AV} {ts:Array Value},TR c t ts->xs.length=ps.length->vs.length=ps.length->(∀ i (hi:i < xs.length) (hj:i < vs.length),V c xs[i] vs[i])->
 TR c (sP ps xs t) ((ps.zip vs).foldl (fun t (p,v)=>t.setIfInBounds p v) ts)
 | [],[],[],_,_,h,_,_,_=>by simpa [sP] using h
 | p::ps,x::xs,v::vs,t,ts,h,h1,h2,hv=>by
  rw [sP,List.zip_cons_cons,List.foldl_cons];refine Fc ps xs vs ?_ (by simpa using h1) (by simpa using h2) (fun i hi hj=>hv (i+1) (by simpa using hi) (by simpa using hj));refine ⟨by simp [h.1],fun i hi hj=>?_⟩;have hx:=hv 0 (by simp) (by simp);by_cases hd:p=i
  ·subst hd;have e1:(t.set p x)[p]'hi=x:=by simp
   have e2:(ts.setIfInBounds p v)[p]'hj=v:=by simp
   rw [e1,e2];exact hx
  ·have e1:(t.set p x)[i]'hi=t[i]'(by simpa using hi):=by rw [List.getElem_set_ne hd]
   have hj':i < (ts.setIfInBounds p v).size:=hj;have e2:(ts.setIfInBounds p v)[i]'hj'=ts[i]'(by simpa using hj'):=by rw [Array.getElem_setIfInBounds_ne (by simpa using hj') hd]
   show V c ((t.set p x)[i]'hi) ((ts.setIfInBounds p v)[i]'hj');rw [e1,e2];exact h.2 i _ _
 | [],_::_,_,_,_,_,h1,_,_=>by simp at h1
 | [],[],_::_,_,_,_,_,h2,_=>by simp at h2
 | _::_,[],_,_,_,_,h1,_,_=>by simp at h1
 | _::_,_::_,[],_,_,_,_,h2,_=>by simp at h2
theorem sA {F:Fo} {c:Ctx} (h:SR F c) {x y:Ls} {l:Nat} {H':List Obj} (hs:iZ x y c.H l=some H'):
 ∃ r:Loop,c.w.heap[c.ι l]?=some (.loop r)/\Xg x r.state r.pending/\∀ r':Loop,r'.tmps=r.tmps->r'.params=r.params->r'.assign=r.assign->r'.body=r.body->Xg y r'.state r'.pending->
  ∃ d:Ctx,d.w=c.w.putObj (c.ι l) (.loop r')/\d.H=H'/\dD F c d/\d.ι l=c.ι l:=by
 unfold iZ at hs;split at hs
 case h_2=>simp at hs
 rename_i s t ps b9 body hid;split at hs
 case isFalse=>simp at hs
 rename_i hsx;subst hsx;injection hs with hs;subst hs
 obtain ⟨wo,g1,r,rfl,g2,g3,g4,g5,g6⟩:=h.x.xr l _ hid rfl;refine ⟨r,g1,g6,fun r' e1 e2 e3 e4 e5=>?_⟩;exact P6 h hid rfl (.lp y t ps b9 body) rfl (.loop r') _ rfl (by simp) fun d hv=>⟨r',rfl,by rw [e1];exact g2.gD hv,by rw [e2];exact g3,by rw [e3];exact g4,by rw [e4];exact g5,e5⟩
theorem cM.uF {n:Nat} {c d:Ctx} (h:cM n c d) {l b:Nat} (hl:l < n) (hb:SV c l b) {o:Obj} (hid:d.H[l]?=some o) (ho:o.sp=true):b=d.ι l:=by
 have:=h.vals (.eI l) (.func (.yield b) #[] #[]) (by simpa [AV.bA] using hl) (.eI l b hb)
 cases this with
 | eI _ _ hs=>exact hs.2 o hid ho
theorem Gk (ck:gU P E) (fu:∀ hs code,yx P E ex (comp P hs code) code) {F:Nat->Prop} {c:Ctx} (kM:SR (fo P F) c) (Ah:gy c E.aI) {l b:Nat} (hb:SV c l b) {xs:List AV} {vs:Array Value} (hl:vs.size=xs.length)
 (hv:∀ i (hi:i < xs.length) (hj:i < vs.size),V c xs[i] vs[i]) {v:AV} {H':List Obj} (hr:S7 ex (.eI l::xs) c.H=some (v,H')):
 ∃ fn tmps b9 body,(Instr.yield b vs).run P c.w= .ok (.round b fn tmps b9 body) c.w/\
  RoundIn Fence.wide 0 P b fn tmps b9 body c.w fun e w'=>∃ u,∃ d:Ctx,e= .returned u/\d.w=w'/\d.H=H'/\SR (fo P F) d/\cM c.H.length c d/\V d v u:=by
 unfold S7 at hr;dsimp only at hr;split at hr
 case h_2=>simp at hr
 rename_i t ps b9 body hid;split at hr
 case isFalse=>simp at hr
 rename_i hxl;split at hr
 case h_2=>simp at hr
 rename_i s1 qQ;split at hr
 case h_2=>simp at hr
 rename_i H1 DX;have Ov:l < c.H.length:=bJ hid;have CE:=hb.2 _ hid rfl;obtain ⟨wo,g1,r,rfl,g2,g3,⟨hs1,PL,X5⟩,⟨wE,Ag,CD⟩,g6⟩:=kM.x.xr l _ hid rfl;rw [<-CE] at g1;have aey:vs.size=r.params.size:=by rw [hl,hxl,<-g3];simp
 refine ⟨r.fn,_,r.assign,r.body,run_yield (P:=P) g1 aey,roundIn_of_wpIn trivial ?_⟩;subst PL;subst Ag;have TL:TR c (sP ps xs t) ((r.params.zip vs).foldl (fun t (p,v)=>t.setIfInBounds p v) r.tmps):=by
  have:=Fc (c:=c) ps xs vs.toList g2 hxl (by simp;omega) (fun i hi hj=>hv i hi (by simpa using hj));rw [<-Array.foldl_toList,Array.toList_zip,g3];exact this
 have aez:FR (fun _=>True) (fo P F) E.aI c ⟨sP ps xs t,c.H⟩ { tmps:=(r.params.zip vs).foldl (fun t (p,v)=>t.setIfInBounds p v) r.tmps,defers:=[] }:=⟨kM,TL,rfl,Marks.nil (fun _ _=>trivial),Ah⟩;refine fu hs1 r.assign (some b) (.inr X5) (fun _=>True) _ c c.H.length _ .normal s1 _ aez (Nat.le_refl _) qQ _ fun d1 a1 GM S0=>?_
 have aeA:=GM.hH;rw [<-aeA] at DX;obtain ⟨r1,k1,k2,k3⟩:=sA GM.sr DX;have nJ:∃ o,d1.H[l]?=some o/\o.sp=true:=by
  unfold iZ at DX;split at DX
  ·rename_i hq;exact ⟨_,hq,rfl⟩
  ·simp at DX
 obtain ⟨o1,Qv,ho1⟩:=nJ;have UK:b=d1.ι l:=S0.uF Ov hb Qv ho1;rw [<-UK] at k1;refine ⟨_,run_beginRound (P:=P) k1 k2.1,?_⟩;obtain ⟨d2,q1,q2,q3,q4⟩:=k3 { r1 with state:= .busy } rfl rfl rfl rfl rfl;rw [<-UK] at q1 q4;have aeB:gy d2 E.aI:=GM.gl.nI ck.aI (q3.2.2 0);have CL:FR (fun _=>True) (fo P F) E.aI d2 ⟨s1.tmps,H1⟩ a1:=⟨q3.1,GM.tr.gD q3.2.1,q2,GM.df.nI GM.sr (q3.2.2 0),aeB⟩;have Ia:c.H.length<=d2.H.length:=(q3.2.2 _).len (S0.len (Nat.le_refl _));rw [<-q1];have aeC:SV d2 l b:=by
  have:=(S0.trans (q3.2.2 c.H.length)).vals (.eI l) (.func (.yield b) #[] #[]) (by simpa [AV.bA] using Ov) (.eI l b hb)
  cases this with
  | eI _ _ hs=>exact hs
 obtain ⟨e2,s2,aeD,H2,y,wW,hy,X9,aeE⟩:∃ e2 s2,ex (comp P wE r.body) c.H.length ⟨s1.tmps,H1⟩=some (e2,s2)/\∃ H2 y,iZ .busy y s2.H l=some H2/\y=(match e2 with | .normal=> .ready | e=> .done e)/\v= .bool (match e2 with | .normal=>true | _=>false)/\H2=H':=by
  split at hr
  ·rename_i s2 h2;split at hr
   case h_2=>simp at hr
   rename_i H2 wW;simp only [Option.some.injEq,Prod.mk.injEq] at hr;exact ⟨.normal,s2,h2,H2,_,wW,rfl,hr.1.symm,hr.2⟩
  ·rename_i e2 s2 hne h2;split at hr
   case h_2=>simp at hr
   rename_i H2 wW;simp only [Option.some.injEq,Prod.mk.injEq] at hr
   cases e2 with
   | normal=>exact (hne rfl).elim
   | exit i=>exact ⟨.exit i,s2,h2,H2,_,wW,rfl,hr.1.symm,hr.2⟩
   | ret=>exact ⟨.ret,s2,h2,H2,_,wW,rfl,hr.1.symm,hr.2⟩
  ·simp at hr
 subst aeE;refine fu wE r.body (some b) (.inr CD) (fun _=>True) _ d2 c.H.length _ e2 s2 a1 CL Ia aeD _ fun d3 a3 hd3 hf3=>?_
 rw [<-hd3.hH] at wW;obtain ⟨r3,m1,m2,m3⟩:=sA hd3.sr wW;have nJ:∃ o,d3.H[l]?=some o/\o.sp=true:=by
  unfold iZ at wW;split at wW
  ·rename_i hq;exact ⟨_,hq,rfl⟩
  ·simp at wW
 obtain ⟨o3,aeF,ho3⟩:=nJ;have UL:b=d3.ι l:=hf3.uF Ov aeC aeF ho3;rw [<-UL] at m1;have fin:∀ jump:Option Code,Xg y (if jump.isNone then .ready else .done) jump->v= .bool jump.isNone->∃ v' w',(Instr.endRound b jump).run P d3.w= .ok v' w'/\∃ u,∃ d:Ctx,Ending.returned v'= .returned u/\d.w=w'/\d.H=H2/\SR (fo P F) d/\cM c.H.length c d/\V d v u:=by
  intro jump hst hvj;obtain ⟨d4,n1,n2,n3,_⟩:=m3 { r3 with state:=if jump.isNone then .ready else .done,pending:=jump } rfl rfl rfl rfl hst;rw [<-UL] at n1;refine ⟨_,_,run_endRound (P:=P) jump m1,_,d4,rfl,n1,n2,n3.1,?_,by rw [hvj];exact .bool _⟩;exact ((S0.trans (q3.2.2 _)).trans hf3).trans (n3.2.2 _)
 cases e2 with
 | normal=>exact fin none (by rw [hy];exact ⟨rfl,rfl⟩) X9
 | ret=>exact fin (some .ret) (by rw [hy];exact ⟨rfl,rfl,by simp⟩) X9
 | exit i=>exact fin (some (.exit i)) (by rw [hy];exact ⟨rfl,rfl,by simp⟩) X9
end
end Go.Am
end
