/- Parts of my machine and its laws, joined: AmXa AmY. No condition. -/
import Derived.Test.YtafgdbaekppjcaaGreatDoorAmX
set_option linter.unusedSectionVars false
set_option linter.unusedVariables false
set_option linter.unusedSimpArgs false
section
namespace Go.Am
open Go.MapKept
section
variable {P:Program} {E:Env} {ex:EX}
theorem grow_sound {F:Fo} {c:Ctx} (h:SR F c) (o:Go.Obj) (hn:∀ cells elem q,o≠Go.Obj.cells cells elem q):Went F c { c with w:=c.w.alloc o }:=by
 have hk:∀ b:Nat,b < c.w.heap.size→(c.w.alloc o).heap[b]?=c.w.heap[b]?:=(heap_alloc c.w o).2
 have hlt:∀ b,(c.w.heap[b]?).isSome→b < c.w.heap.size:=by
  intro b hs
  rcases Nat.lt_or_ge b c.w.heap.size with e | e
  ·exact e
  ·rw [Array.getElem?_eq_none e] at hs;simp at hs
 have hV:∀ x v,V c x v→V { c with w:=c.w.alloc o } x v:=fun x v hx=>
  V.mono (c:=c) (d:={ c with w:=c.w.alloc o }) (fun b hb hs=>⟨hk b (hlt b hs),hb⟩) (fun _ _ _ _ _ h=>h) (fun _ _ _ _ _ h=>h) (fun _ _ _ _ _ _ h=>h) (fun _ _ h=>h) hx
 have hsz:c.w.heap.size≤(c.w.alloc o).heap.size:=by rw [World.size_alloc];omega
 refine ⟨⟨⟨?_,h.hr.inj⟩,h.hO,fun b hf=>Nat.lt_of_lt_of_le (h.hF b hf) hsz,h.disj,h.x.keep (fun id o' h1 h2=>⟨h1,rfl,hk _ (h.sp_lt h1 h2).1⟩) hV⟩,hV,
  fun n=>⟨hsz,fun b hb _ _=>hk b hb,fun x v _ hx=>hV x v hx,fun b ho=> .inl ho,fun hn=>hn,same_alloc _ _ hn,fun b hb=> .inl hb⟩⟩
 intro id nl sz es h1 h2
 obtain ⟨cells,elem,g1,g2,g3,g4,g5⟩:=h.hr.back id nl sz es h1 h2
 refine ⟨cells,elem,(hk _ (hlt _ (by rw [g1];rfl))).trans g1,g2,g3,g4,fun i hi=>⟨(g5 i hi).1,fun j hj=>?_⟩⟩
 obtain ⟨u,hu,hv⟩:=(g5 i hi).2 j hj
 exact ⟨u,hu,hV _ _ hv⟩
theorem drop_sound {F:Fo} {c:Ctx} (h:SR F c) {id:Nat} {o:Obj} (hid:c.H[id]?=some o) (ho:o.sp=true) (wo:Go.Obj) (hn:∀ cells elem q,wo≠Go.Obj.cells cells elem q):
 ∃ d:Ctx,d.w=c.w.putObj (c.ι id) wo∧d.H=c.H.set id .dead∧Went F c d:=by
 obtain ⟨w0,g1,g2⟩:=h.x.xr id o hid ho
 have hidlt:=lt_of_some hid
 let H':=c.H.set id .dead
 have hget:∀ (j:Nat) (o':Obj),o'≠ .dead→H'[j]?=some o'→j≠id∧c.H[j]?=some o':=by
  intro j o' hd hs
  by_cases hj:j=id
  ·subst hj;simp [H',hidlt] at hs;exact (hd hs.symm).elim
  ·refine ⟨hj,?_⟩
   rw [←hs];simp only [H'];rw [List.getElem?_set_ne (fun q=>hj q.symm)]
 have hown:∀ b,Owned H' c.ι b→Owned c.H c.ι b:=by
  rintro b ⟨j,nl,sz,es,q1,q2,q3⟩
  exact ⟨j,nl,sz,es,(hget _ _ (by simp) q1).2,q2,q3⟩
 have hB:¬ Owned c.H c.ι (c.ι id):=(h.sp_lt hid ho).2
 let d:Ctx:=⟨c.w.putObj (c.ι id) wo,fun b=>F b∨Owned H' c.ι b,c.ι,c.K,H'⟩
 have hk:∀ b,b≠c.ι id→d.w.heap[b]?=c.w.heap[b]?:=fun b hb=>World.putObj_heap_other hb
 have hHas:∀ i,Has c i→Has d i:=by
  rintro i ⟨h1,h2⟩
  refine ⟨by simpa [d,H'] using h1,fun e=>?_⟩
  exact h2 (hget _ _ (by simp) e).2
 have hsp:∀ j o',d.H[j]?=some o'→o'.sp=true→c.H[j]?=some o'∧d.ι j=c.ι j∧d.w.heap[c.ι j]?=c.w.heap[c.ι j]?:=by
  intro j o' h1 h2
  obtain ⟨h3,h4⟩:=hget j o' (by rintro rfl;simp [Obj.sp] at h2) h1
  exact ⟨h4,rfl,hk _ fun e=>h3 (h.x.xi j id o' o h4 h2 hid ho e)⟩
 have hV:∀ x v,V c x v→V d x v:=by
  intro x v hx
  refine V.monoW ?_ ?_ ?_ ?_ (fun i b hs=>hs.keep hHas hsp) hx
  ·intro b p u hb hc
   have hne:b≠c.ι id:=by
    rintro rfl
    unfold World.cell? at hc
    rw [g1] at hc
    cases w0 with
    | cells c1 e1 q1=>exact g2.nocells _ _ _ rfl
    | _=>simp at hc
   refine ⟨by rw [←hc];simp only [World.cell?,hk b hne],?_⟩
   rintro (hf | ho')
   ·exact hb ((h.hO b).2 (.inl hf))
   ·exact hb ((h.hO b).2 (.inr (hown b ho')))
  ·rintro i e p l v ⟨q1,q2,q3⟩
   exact ⟨hHas i q1,q2,fun nl sz es hs=>q3 nl sz es (hget _ _ (by simp) hs).2⟩
  ·rintro i e p l v ⟨q1,q,q2,q3,q4⟩
   exact ⟨hHas i q1,q,q2,q3,fun nl sz es hs=>q4 nl sz es (hget _ _ (by simp) hs).2⟩
  ·rintro i e p l k v ⟨q1,q,q2,q3,q4⟩
   exact ⟨hHas i q1,q,q2,q3,fun nl sz es hs=>q4 nl sz es (hget _ _ (by simp) hs).2⟩
 have hsz:d.w.heap.size=c.w.heap.size:=World.putObj_size
 refine ⟨d,rfl,rfl,⟨⟨?_,?_⟩,fun b=>Iff.rfl,fun b hf=>by rw [hsz];exact h.hF b hf,fun b hb=>h.disj b (hown b hb),h.x.keep hsp hV⟩,hV,
  fun n=>⟨by rw [hsz];exact Nat.le_refl _,fun b _ _ hs=>hk b fun e=>hs ⟨id,o,hid,ho,e.symm⟩,fun x v _ hx=>hV x v hx,fun b hb=> .inl (hown b hb),fun hn=>by simpa [d,H'] using hn,same_set g1 rfl g2.nocells hn,fun b hb=> .inl (ownedS_keep hsp hb)⟩⟩
 ·intro i nl sz es hs hbk
  have hs':=(hget _ _ (by simp) hs).2
  obtain ⟨cells,elem,q1,q2,q3,q4,q5⟩:=h.hr.back i nl sz es hs' hbk
  have hne:c.ι i≠c.ι id:=fun e=>hB (by rw [←e];exact ⟨i,nl,sz,es,hs',hbk,rfl⟩)
  refine ⟨cells,elem,(hk _ hne).trans q1,q2,q3,.inr ⟨i,nl,sz,es,hs,hbk,rfl⟩,fun q hq=>⟨(q5 q hq).1,fun j hj=>?_⟩⟩
  obtain ⟨u,hu,hv⟩:=(q5 q hq).2 j hj
  exact ⟨u,hu,hV _ _ hv⟩
 ·intro i i' _ _ _ _ _ _ h1 h2 h3 h4 he hlt
  exact h.hr.inj i i' _ _ _ _ _ _ (hget _ _ (by simp) h1).2 h2 (hget _ _ (by simp) h3).2 h4 he hlt
theorem rfn_sound (henv:EnvOk P E) (hsnd:∀ hs code,Snd P E ex (comp P hs code) code) {hs:List (Nat×Hint)} {g:Operand} {ps:Array Tmp} {asg body:Code} (hna:noRF asg=true) (hnb:noRF body=true)
 {lo:Nat→Prop} {F:Nat→Prop} {c:Ctx} {base:Nat} {s:St} {a:Act} (hfr:FR lo (fo P F) E.glob c s a) (hb:base≤c.H.length) {f:Nat} {cap:List AV}
 (hg:(cx g).ev E.glob s.tmps= .fn f cap) {u:AV} {H':List Obj} (hr:cHF E.fns ex (some f) (.yld s.H.length::cap) (s.H++[.lp .ready s.tmps ps.toList (comp P hs asg) (comp P hs body)])=some (u,H'))
 {e:Ex} (he:lpEnd H' s.H.length=some e) {Q:Exit→Act→World→Prop}
 (hQ:∀ d a',FR lo (fo P F) E.glob d ⟨s.tmps,H'.set s.H.length .dead⟩ a'→Fut base c d→Q (exitOf e) a' d.w):(Code.rangeFunc g ps asg body).wpIn (wd none) 0 P Q a c.w:=by
 have hH:=hfr.hH
 have hent:∀ args w,(callFunc f args).run P w= .ok (.enter f args) w:=by
  have:∃ rf,E.fns f=some rf:=by
   unfold cHF at hr
   dsimp only at hr
   split at hr
   ·rename_i rf hrf;exact ⟨rf,hrf⟩
   ·simp at hr
  obtain ⟨rf,hrf⟩:=this
  obtain ⟨fn,hs,hf,hc⟩:=henv.fns f rf hrf
  obtain ⟨code,hb,hn,_⟩:=compF_some hc
  exact fun args w=>run_enter hf hn hb args w
 have hgv:=ev_V hfr.tr hfr.gl g
 rw [hg] at hgv
 generalize hgval:a.eval g=gv at hgv
 cases hgv with
 | fn _ _ vs hvs hcv=>
 refine wpIn_rangeFunc ?_
 intro fn hfn
 have w1:=grow_sound hfr.sr (.deferred (some [])) (by simp)
 have hD0:(c.w.alloc (.deferred (some []))).heap[c.w.heap.size]?=some (.deferred (some [])):=(heap_alloc c.w _).1
 have hsz1:(c.w.alloc (.deferred (some []))).heap.size=c.w.heap.size+1:=World.size_alloc ..
 obtain ⟨d1,m1,m2,m3,m4,m5⟩:=madeS w1.1 (pl:=c.H.length) (.inr rfl) (.lp .ready s.tmps ps.toList (comp P hs asg) (comp P hs body)) rfl
  (.loop { state:= .ready,pending:=none,fn,tmps:=a.tmps,params:=ps,assign:=asg,body,defers:=c.w.heap.size }) (by simp)
  (fun d hv=>⟨_,rfl,(hfr.tr.went w1.2.1).went hv,rfl,⟨hs,rfl,hna⟩,⟨hs,rfl,hnb⟩,rfl,rfl⟩)
 have hw01:Went (fo P F) c d1:=w1.trans m3
 have hH1:d1.H=s.H++[.lp .ready s.tmps ps.toList (comp P hs asg) (comp P hs body)]:=by
  rw [m2];unfold putObj;rw [if_neg (Nat.lt_irrefl _)];rw [show ({ c with w:=c.w.alloc (.deferred (some [])) }:Ctx).H=s.H from hH]
 have hlen1:d1.H.length=s.H.length+1:=by rw [hH1];simp
 have hpl:c.H.length=s.H.length:=by rw [hH]
 rw [hpl] at m4 m5
 have hblk:({ c with w:=c.w.alloc (.deferred (some [])) }:Ctx).w.heap.size=c.w.heap.size+1:=hsz1
 rw [hblk] at m4 m5
 rw [←hH1] at hr
 have hD1:d1.w.heap[c.w.heap.size]?=some (.deferred (some [])):=by
  rw [m1];exact ((heap_alloc _ _).2 _ (by rw [hblk];omega)).trans hD0
 have hszd1:d1.w.heap.size=c.w.heap.size+2:=by rw [m1,World.size_alloc,hblk]
 refine ⟨c.w.heap.size+1,[{ target:= .collected c.w.heap.size,args:=#[] }],d1.w,{ target:= .fn (.func f) vs,args:=#[.func (.yield (c.w.heap.size+1)) #[] #[]] },d1.w,f,
  #[.func (.yield (c.w.heap.size+1)) #[] #[]]++vs,d1.w,?_,?_,fun _ _=>trivial,?_,fun h=>by simp [wd,Fence.wide] at h,?_⟩
 ·rw [m1];exact run_enterLoop_outer _ _ _ _ _
 ·simp only [resolve,hgval]
  simp [go_sem]
 ·simp [invoke,go_sem,hent]
 have hcall:=cH_sound henv hsnd (c:=d1) (vs:=(.func (.yield (c.w.heap.size+1)) #[] #[])::vs.toList) hr m3.1 (hfr.gl.fut henv.glob (hw01.2.2 0)) (by simp [hvs]) (fun i hi hj=>by
  cases i with
  | zero=>exact .yld _ _ m4
  | succ i=>exact hw01.2.1 _ _ (hcv i (by simpa using hi) (by simpa using hj)))
 have harr:((Value.func (.yield (c.w.heap.size+1)) #[] #[])::vs.toList).toArray=#[.func (.yield (c.w.heap.size+1)) #[] #[]]++vs:=by apply Array.ext';simp
 rw [harr] at hcall
 refine (wd_calls (ρ:=none) (n:=0) hcall).mono ?_
 rintro ev w2 ⟨v,d,rfl,rfl,h1,h2,h3,_⟩
 obtain ⟨t',ps',asg',body',st,hid,hst⟩:∃ t' ps' asg' body' st,d.H[s.H.length]?=some (.lp st t' ps' asg' body')∧(st= .ready∧e= .normal∨st= .done e):=by
  rw [h1]
  unfold lpEnd at he
  split at he
  ·rename_i hq;injection he with he;exact ⟨_,_,_,_,_,hq,.inl ⟨rfl,he.symm⟩⟩
  ·rename_i hq;injection he with he;subst he;exact ⟨_,_,_,_,_,hq,.inr rfl⟩
  ·simp at he
 have hbd:c.w.heap.size+1=d.ι s.H.length:=h3.same_blk (by rw [hlen1];omega) m4 hid rfl
 obtain ⟨wo,g1,r,rfl,_,_,_,_,g6⟩:=h2.x.xr _ _ hid rfl
 rw [←hbd] at g1
 have hnb:r.state≠ .busy:=by
  rcases hst with ⟨rfl,_⟩ | rfl
  ·intro q;have:=g6.1;rw [this] at q;cases q
  ·intro q;have:=g6.1;rw [this] at q;cases q
 obtain ⟨d2,n1,n2,n3⟩:=drop_sound h2 hid rfl (.loop { r with state:= .exhausted }) (by simp)
 rw [←hbd] at n1
 have hf1:Fut c.H.length c d1:=hw01.2.2 _
 have hf2:Fut c.H.length d1 d2:=Fut.trans ⟨h3.size,h3.keep,fun x v hx=>h3.vals x v (bel_mono (by rw [hlen1,hpl];omega) x hx),h3.owned,fun _=>by have:=h3.len (Nat.le_refl _);omega,h3.same,h3.ownedS⟩ (n3.2.2 _)
 have hfut:Fut c.H.length c d2:=hf1.trans hf2
 have hfutb:Fut base c d2:=⟨hfut.size,hfut.keep,fun x v hx=>hfut.vals x v (bel_mono hb x hx),hfut.owned,fun _=>Nat.le_trans hb (hfut.len (Nat.le_refl _)),hfut.same,hfut.ownedS⟩
 have hDd:d2.w.heap[c.w.heap.size]?=some (.deferred (some [])):=by
  rw [hf2.keep _ (by rw [hszd1];omega) ?_ ?_,hD1]
  ·rintro ⟨id,nl,sz,es,q1,q2,q3⟩
   obtain ⟨cells,elem,q4,_⟩:=m3.1.hr.back id nl sz es q1 q2
   rw [q3,hD1] at q4;simp at q4
  ·rintro ⟨id,o,q1,q2,q3⟩
   obtain ⟨wo,q4,q5⟩:=m3.1.x.xr id o q1 q2
   rw [q3,hD1] at q4;injection q4 with q4
   exact q5.nodef _ q4.symm
 have hfr2:FR lo (fo P F) E.glob d2 ⟨s.tmps,H'.set s.H.length .dead⟩ { a with defers:=[{ target:= .collected c.w.heap.size,args:=#[] }]++a.defers }:=by
  refine ⟨n3.1,⟨hfr.tr.1,fun i hi hj=>hfut.vals _ _ ((hfr.tr.2 i hi hj).bel) (hfr.tr.2 i hi hj)⟩,by rw [n2,h1],?_,hfr.gl.fut henv.glob hfut⟩
  obtain ⟨hlo,Ds,k1,k2,k3⟩:=hfr.df
  obtain ⟨hlo5,Ds5,_,_,_⟩:=hfr.df.fut hfr.sr hfut
  refine ⟨hlo5,c.w.heap.size::Ds,?_,?_,?_⟩
  ·rw [List.nodup_cons]
   refine ⟨fun h=>?_,k1⟩
   have:=(k3 _ h).2
   rw [Array.getElem?_eq_none (Nat.le_refl _)] at this
   simp at this
  ·rw [List.map_cons,←k2];rfl
  ·intro D' hD'
   rcases List.mem_cons.1 hD' with rfl | hD'
   ·exact ⟨hlo _ (Nat.le_refl _),hDd⟩
   ·have h3:=(k3 D' hD').2
    have hlt:D' < c.w.heap.size:=(Array.getElem?_eq_some_iff.1 h3).1
    refine ⟨(k3 D' hD').1,(hfut.keep D' hlt ?_ ?_).trans h3⟩
    ·rintro ⟨id,nl,sz,es,q1,q2,q3⟩
     obtain ⟨cells,elem,q4,_⟩:=hfr.sr.hr.back id nl sz es q1 q2
     rw [q3,h3] at q4;simp at q4
    ·rintro ⟨id,o,q1,q2,q3⟩
     obtain ⟨wo,q4,q5⟩:=hfr.sr.x.xr id o q1 q2
     rw [q3,h3] at q4;injection q4 with q4
     exact q5.nodef _ q4.symm
 refine ⟨r.pending,_,run_endLoop (P:=P) g1 hnb,?_⟩
 rw [←n1]
 rcases hst with ⟨rfl,rfl⟩ | rfl
 ·rw [g6.2]
  exact hQ d2 _ hfr2 hfutb
 ·rw [g6.2.1]
  cases e with
  | normal=>exact (g6.2.2 rfl).elim
  | ret=>exact wpIn_ret (hQ d2 _ hfr2 hfutb)
  | exit i=>exact wpIn_exit (hQ d2 _ hfr2 hfutb)
end
end Go.Am
end
section
namespace Go.Am
section
variable {P:Program} {E:Env} {hp:Nat→Bool}
theorem places_ops:∀ (k:Nat) (rops:List ROp),(places k rops).map (·.2)=rops
 | _,[]=>rfl
 | k,o::os=>by simp only [places,List.map_cons,places_ops]
theorem hint_sound {n:Nat} {r:RC} {code:Code} (h:Hint) (hG:∀ g,AV.bels 0 (E.glob g)=true) (h1:Snd P E (exec E hp (n+1)) r code) (h0:Snd P E (exec E hp n) r code):
 Snd P E (exec E hp (n+1)) (withHint h r) code:=by
 unfold withHint
 split
 ·exact h1
 ·intro ρ hρ lo F c base s e s' a hfr hb hex Q hQ
  simp only [exec] at hex
  split at hex
  case h_2=>simp at hex
  rename_i s0 hs0
  obtain ⟨d,d1,d2,d3⟩:=ghosts_sound hG h.pre hfr hs0
  have hb':base≤d.H.length:=d3.len hb
  split at hex
  ·rename_i s1 hs1
   split at hex
   case h_2=>simp at hex
   rename_i s2 hs2
   simp only [Option.some.injEq,Prod.mk.injEq] at hex
   obtain ⟨rfl,rfl⟩:=hex
   rw [←d1]
   refine h0 ρ hρ lo F d base s0 .normal s1 a d2 hb' hs1 Q fun d' a' hd' hfut=>?_
   obtain ⟨d'',e1,e2,e3⟩:=ghosts_sound hG h.post hd' hs2
   rw [←e1]
   exact hQ d'' a' e2 ((d3.trans hfut).trans e3)
  ·rename_i r' hne
   rw [←d1]
   exact h0 ρ hρ lo F d base s0 e s' a d2 hb' hex Q fun d' a' hd' hfut=>hQ d' a' hd' (d3.trans hfut)
def inner (P:Program) (hs:List (Nat×Hint)):Code→RC
 | .region id ops dr=>
  if dr then compDraw P ((hintOf hs id).mid.map (·.1)) ops (ops.toList.map (compOper P ops))
   else compMid (hintOf hs id).mid (ops.toList.map (compOper P ops))
 | .cond c a b=> .cond (cx c) (comp P hs a) (comp P hs b)
 | .block id b=> .block id (comp P hs b)
 | .rangeFunc g ps a b=>if noRF a&&noRF b then .rfn (cx g) ps.toList (comp P hs a) (comp P hs b) else .bad
 | c=>comp P hs c
theorem comp_inner (hs:List (Nat×Hint)) (code:Code):∃ h,comp P hs code=withHint h (inner P hs code):=by
 cases code with
 | region id ops dr=>exact ⟨_,rfl⟩
 | cond c a b=>exact ⟨_,rfl⟩
 | block id b=>exact ⟨_,rfl⟩
 | rangeFunc g ps a b=>exact ⟨_,rfl⟩
 | _=>exact ⟨{},rfl⟩
theorem drawN_sound {js:List Nat} {n:Nat} (henv:EnvOk P E) (IH:∀ hs code,Snd P E (exec E hp n) (comp P hs code) code) {ops:Array Oper} {first:List ROp} {l2:List Nat}
 (hf:∀ i,i < first.length→∃ h:i < ops.size,first.getD i default=compOper P ops ops[i])
 (hsplit:∀ mixed τ,Ord ops ops.size (Region.schedule mixed ops τ)→∃ π,Region.schedule mixed ops τ=π++l2∧Ord ops first.length π)
 {ρ:Option Nat} {lo:Nat→Prop} {F:Nat→Prop} {c:Ctx} {base:Nat} {s:St} {e:Ex} {s':St} {a:Act} (hfr:FR lo (fo P F) E.glob c s a) (hb:base≤c.H.length)
 (hex:exec E hp (n+1) (compDrawN P js ops first) base s=some (e,s')) {Q:Exit→Act→World→Prop}
 (hQ:e= .normal→∀ d a',FR lo (fo P F) E.glob d s' a'→Fut base c d→wpOpsIn (wd ρ) 0 P ops Q l2 a' d.w) (τ:Nat):
 wpOpsIn (wd ρ) 0 P ops Q (Region.schedule (P.follows .mixedOrders) ops τ) a { c.w with drawn:=c.w.drawn+1 }:=by
 have hw:=hfr.sr.drawn (c.w.drawn+1)
 have hfr':FR lo (fo P F) E.glob { c with w:={ c.w with drawn:=c.w.drawn+1 } } s a:=hfr.went henv.glob hw hfr.hH rfl
 have hdraw:drawOk ops first=true→exec E hp (n+1) (.draw first) base s=some (e,s')→wpOpsIn (wd ρ) 0 P ops Q (Region.schedule (P.follows .mixedOrders) ops τ) a { c.w with drawn:=c.w.drawn+1 }:=by
  intro hdr hex
  simp only [exec] at hex
  split at hex
  case h_2=>simp at hex
  rename_i t' H' hr
  simp only [Option.some.injEq,Prod.mk.injEq] at hex
  obtain ⟨rfl,rfl⟩:=hex
  obtain ⟨π,hπ,ho⟩:=hsplit (P.follows .mixedOrders) τ (drawOk_ord hdr _ _)
  rw [hπ]
  have hr':=ord_any E.glob _ ho (drawOk_pairs hdr) hr
  exact ops_sound (c:={ c with w:={ c.w with drawn:=c.w.drawn+1 } }) henv IH (.inr rfl) ops first l2 π (fun i hi=>hf i ((ho.mem i).1 hi)) hfr' hb hr' fun d a' hd hfut=>hQ rfl d a' hd ((hw.2.2 base).trans hfut)
 unfold compDrawN at hex
 split at hex
 ·rename_i hdr
  simp only [Bool.and_eq_true] at hdr
  exact hdraw hdr.1 hex
 split at hex
 ·rename_i hdr
  simp only [Bool.and_eq_true] at hdr
  replace hdr:=hdr.1
  simp only [exec] at hex
  split at hex
  case h_2=>simp at hex
  rename_i t' H' hr
  simp only [Option.some.injEq,Prod.mk.injEq] at hex
  obtain ⟨rfl,rfl⟩:=hex
  obtain ⟨π,hπ,ho⟩:=hsplit (P.follows .mixedOrders) τ (drawOkH_ord hdr _ _)
  rw [hπ]
  have hr':=ord_anyA E.glob hp _ _ ho (drawOkH_pairs hdr) hr
  exact ops_sound (hp:=hp) (c:={ c with w:={ c.w with drawn:=c.w.drawn+1 } }) henv IH (.inl rfl) ops first l2 π (fun i hi=>hf i ((ho.mem i).1 hi)) hfr' hb hr' fun d a' hd hfut=>hQ rfl d a' hd ((hw.2.2 base).trans hfut)
 split at hex
 ·rename_i hdr
  simp only [Bool.and_eq_true] at hdr
  exact hdraw hdr.1 hex
 split at hex
 ·rename_i hdr
  simp only [Bool.and_eq_true] at hdr
  replace hdr:=hdr.1
  simp only [exec] at hex
  split at hex
  case h_2=>simp at hex
  rename_i t' H' hr
  simp only [Option.some.injEq,Prod.mk.injEq] at hex
  obtain ⟨rfl,rfl⟩:=hex
  obtain ⟨π,hπ,ho⟩:=hsplit (P.follows .mixedOrders) τ (drawOkX_ord hdr _ _)
  rw [hπ]
  have hr':=ord_anyX ho hdr hr
  exact ops_sound (hp:=hp) (c:={ c with w:={ c.w with drawn:=c.w.drawn+1 } }) henv IH (.inl rfl) ops first l2 π (fun i hi=>hf i ((ho.mem i).1 hi)) hfr' hb hr' fun d a' hd hfut=>hQ rfl d a' hd ((hw.2.2 base).trans hfut)
 ·dsimp only at hex
  have hml:(mkOps P js ops first).length=first.length:=by
   have:first.length≤ops.size:=by
    rcases Nat.lt_or_ge ops.size first.length with h1 | h1
    ·obtain ⟨h2,_⟩:=hf ops.size h1;omega
    ·exact h1
   simp [mkOps];omega
  have hmg:∀ i,i < (mkOps P js ops first).length→∃ h:i < ops.size,(mkOps P js ops first)[i]?=some (mkOp P js ops ops[i] (compOper P ops ops[i])):=by
   intro i hi
   have hi1:i < first.length:=by omega
   obtain ⟨h1,h2⟩:=hf i hi1
   refine ⟨h1,?_⟩
   obtain ⟨h3,h4⟩:=mkOps_get (P:=P) h1 hi1
   rw [List.getElem?_eq_getElem h3,h4]
   congr 2
   rw [←h2];simp [List.getD,hi1]
  rw [←hml] at hsplit
  generalize mkOps P js ops first=fs0 at hex hml hmg hsplit
  generalize dynPairs (Region.before ops).toList fs0=ps at hex
  generalize allocs fs0=k at hex
  have hpl:=places_ops 0 fs0
  generalize places 0 fs0=rl at hex hpl
  split at hex
  case isFalse=>simp [exec] at hex
  rename_i hdr
  simp only [exec] at hex
  split at hex
  case h_2=>simp at hex
  rename_i t' H' fs hr
  split at hex
  case isFalse=>simp at hex
  rename_i hps
  simp only [Option.some.injEq,Prod.mk.injEq] at hex
  obtain ⟨rfl,rfl⟩:=hex
  obtain ⟨π,hπ,ho⟩:=hsplit (P.follows .mixedOrders) τ (drawOkW_ord hdr _ _)
  rw [hπ]
  have hlen:rl.length=fs0.length:=by have:=congrArg List.length hpl;simpa using this
  obtain ⟨fs',hr'⟩:=ord_anyD E.glob _ (l:=rl) (by rw [hlen];exact ho) (by rw [hpl];exact drawOkW_pairs hdr) hr hps
  obtain ⟨d1,e1,e2,e3,e4,e5,e6⟩:=rsv_sound (G:=E.glob) hfr'.sr k
  have hfr2:FR lo (fo P F) E.glob d1 ⟨s.tmps,s.H++List.replicate k .rsv⟩ a:=⟨e3,hfr'.tr.went e4,by rw [e2,hfr'.hH],hfr'.df.fut hfr'.sr (e5 0),e6 hfr'.gl⟩
  have hlen1:base≤d1.H.length:=(e5 base).len hb
  have e1':({ c.w with drawn:=c.w.drawn+1 }:World)=d1.w:=e1.symm
  rw [e1']
  refine opsD_sound (js:=js) henv IH ops rl l2 π (fun i hi=>?_) hfr2 hlen1 hr' fun d a' hd hfut=>hQ rfl d a' hd (((hw.2.2 base).trans (e5 base)).trans hfut)
  have hi':i < fs0.length:=(ho.mem i).1 hi
  obtain ⟨h1,h2⟩:=hmg i hi'
  have hil:i < rl.length:=by omega
  refine ⟨h1,rl[i].1,?_⟩
  have h3:(rl.map (·.2))[i]?=some (mkOp P js ops ops[i] (compOper P ops ops[i])):=by rw [hpl];exact h2
  rw [List.getElem?_map,List.getElem?_eq_getElem hil,Option.map_some] at h3
  injection h3 with h3
  simp [List.getD,hil,←h3]
theorem mid_sound (henv:EnvOk P E) (ops:Array Oper):∀ (mids:List (Nat×List GA)) (p n:Nat),(∀ m,m < n→∀ hs code,Snd P E (exec E hp m) (comp P hs code) code)→
 ∀ {ρ:Option Nat} {lo:Nat→Prop} {F:Nat→Prop} {c:Ctx} {base:Nat} {s:St} {e:Ex} {s':St} {a:Act},FR lo (fo P F) E.glob c s a→base≤c.H.length→
 exec E hp n (compMid mids ((ops.toList.map (compOper P ops)).drop p)) base s=some (e,s')→∀ Q:Exit→Act→World→Prop,(∀ d a',FR lo (fo P F) E.glob d s' a'→Fut base c d→Q (exitOf e) a' d.w)→
 wpOpsIn (wd ρ) 0 P ops Q (List.range' p (ops.size - p)) a c.w:=by
 have hget:∀ i,i < ops.size→∃ h:i < ops.size,(ops.toList.map (compOper P ops)).getD i default=compOper P ops ops[i]:=fun i hi=>⟨hi,by simp [List.getD,hi]⟩
 have hsl:∀ p j,p+j≤ops.size→(List.range' p j).map (fun i=>(ops.toList.map (compOper P ops)).getD i default)=((ops.toList.map (compOper P ops)).drop p).take j:=by
  intro p j hj
  apply List.ext_getElem
  ·simp;omega
  ·intro i h1 h2
   simp at h1
   have hi:p+i < ops.size:=by omega
   simp [List.getD,hi]
 intro mids
 induction mids with
 | nil=>
  intro p n IH ρ lo F c base s e s' a hfr hb hex Q hQ
  cases n with
  | zero=>simp [exec] at hex
  | succ n=>
  simp only [compMid,exec] at hex
  split at hex
  case h_2=>simp at hex
  rename_i t' H' hr
  simp only [Option.some.injEq,Prod.mk.injEq] at hex
  obtain ⟨rfl,rfl⟩:=hex
  rw [←List.append_nil (List.range' p (ops.size - p))]
  refine ops_sound (hp:=hp) henv (IH n (Nat.lt_succ_self _)) (.inl rfl) ops (ops.toList.map (compOper P ops)) [] (List.range' p (ops.size - p)) (fun i hi=>hget i (by simp at hi;omega)) hfr hb (t':=t') (H':=H') ?_ fun d a' hd hfut=>hQ d a' hd hfut
  by_cases hp':p≤ops.size
  ·rw [hsl p _ (by omega),List.take_of_length_le (by simp)];exact hr
  ·have:ops.size - p=0:=by omega
   rw [this]
   rw [List.drop_eq_nil_of_le (by simp;omega)] at hr
   exact hr
 | cons jg r ihm=>
  obtain ⟨j,g⟩:=jg
  intro p n IH ρ lo F c base s e s' a hfr hb hex Q hQ
  cases n with
  | zero=>simp [exec] at hex
  | succ n=>
  cases n with
  | zero=>simp [compMid,exec] at hex
  | succ n=>
  cases n with
  | zero=>simp [compMid,exec,ghosts] at hex
  | succ n=>
  have hj:∃ q,p+q≤max p ops.size∧((ops.toList.map (compOper P ops)).drop p).take j=((ops.toList.map (compOper P ops)).drop p).take q∧List.range' p (ops.size - p)=List.range' p q++List.range' (p+j) (ops.size - (p+j)):=by
   by_cases h1:p+j≤ops.size
   ·refine ⟨j,by omega,rfl,?_⟩
    have:ops.size - p=j+(ops.size - (p+j)):=by omega
    rw [this,←List.range'_append_1]
   ·refine ⟨ops.size - p,by omega,?_,?_⟩
    ·rw [List.take_of_length_le (by simp;omega),List.take_of_length_le (by simp)]
    ·have:ops.size - (p+j)=0:=by omega
     rw [this];simp
  obtain ⟨q,hq,htake,hrange⟩:=hj
  rw [hrange]
  simp only [compMid] at hex
  rw [htake] at hex
  have hex1:(match exec E hp (n+2) (.gh [] (.reg (((ops.toList.map (compOper P ops)).drop p).take q)) g) base s with
   | some (.normal,s1)=>exec E hp (n+2) (compMid r (((ops.toList.map (compOper P ops)).drop p).drop j)) base s1
   | x=>x)=some (e,s'):=hex
  have hgh:exec E hp (n+2) (.gh [] (.reg (((ops.toList.map (compOper P ops)).drop p).take q)) g) base s=(match runOps E.glob hp (cIF E.fns (exec E hp n)) (cHF E.fns (exec E hp n)) (((ops.toList.map (compOper P ops)).drop p).take q) s.tmps s.H with
   | some (t,H)=>(match ghosts base g ⟨t,H⟩ with | some s2=>some (.normal,s2) | none=>none)
   | none=>none):=by
   simp only [exec,ghosts]
   cases runOps E.glob hp (cIF E.fns (exec E hp n)) (cHF E.fns (exec E hp n)) (((ops.toList.map (compOper P ops)).drop p).take q) s.tmps s.H with
   | none=>rfl
   | some x=>rfl
  rw [hgh] at hex1
  cases hr:runOps E.glob hp (cIF E.fns (exec E hp n)) (cHF E.fns (exec E hp n)) (((ops.toList.map (compOper P ops)).drop p).take q) s.tmps s.H with
  | none=>rw [hr] at hex1;simp at hex1
  | some x=>
   obtain ⟨t1,H1⟩:=x
   rw [hr] at hex1
   simp only at hex1
   cases hg:ghosts base g ⟨t1,H1⟩ with
   | none=>rw [hg] at hex1;simp at hex1
   | some s2=>
    rw [hg] at hex1
    simp only at hex1
    have hr':runOps E.glob hp (cIF E.fns (exec E hp n)) (cHF E.fns (exec E hp n)) ((List.range' p q).map fun i=>(ops.toList.map (compOper P ops)).getD i default) s.tmps s.H=some (t1,H1):=by
     by_cases hpz:p≤ops.size
     ·rw [hsl p q (by omega)];exact hr
     ·have hq0:q=0:=by omega
      subst hq0
      simpa using hr
    refine ops_sound (hp:=hp) henv (IH n (by omega)) (.inl rfl) ops (ops.toList.map (compOper P ops)) (List.range' (p+j) (ops.size - (p+j))) (List.range' p q) (fun i hi=>hget i (by simp at hi;omega)) hfr hb hr' fun d a' hd hfut=>?_
    obtain ⟨d2,g1,g2,g3⟩:=ghosts_sound henv.glob g hd hg
    rw [←g1]
    refine ihm (p+j) (n+2) (fun m hm=>IH m (by omega)) g2 ((hfut.trans g3).len hb) (by rw [List.drop_drop] at hex1;exact hex1) Q fun d' a'' hd' hfut'=>hQ d' a'' hd' ((hfut.trans g3).trans hfut')
def roundsIn (F:Fence) (P:Program) (c:Code) (Q:Exit→Act→World→Prop):Nat→Act→World→Prop
 | 0,_,_=>False
 | n+1,a,w=>c.wpIn F 0 P (Exit.then (roundsIn F P c Q n) Q) a w
theorem wpIn_loop_rounds {F:Fence} {Q:Exit→Act→World→Prop} {a:Act} {w:World} {c:Code} (n:Nat) (h:roundsIn F P c Q n a w):(Code.loop c).wpIn F 0 P Q a w:=by
 intro b k cs hro hb hr
 have key:∀ n a w,roundsIn F P c Q n a w→
  ∃ e a' w',Q e a' w'∧ArrivesIn (Machine.fenced P F) P (lone (b.atR a (.code c:: .inLoop c::k)) cs w) b k cs e a' w':=by
  intro n
  induction n with
  | zero=>intro a w h;exact h.elim
  | succ n ih=>
   intro a w h
   obtain ⟨e,a₁,w₁,hq,harr⟩:=h b (.inLoop c::k) cs hro hb hr
   cases e with
   | normal=>
    obtain ⟨e₂,a₂,w₂,hq₂,harr₂⟩:=ih a₁ w₁ hq
    exact ⟨e₂,a₂,w₂,hq₂,.of_steps (StepsIn.trans harr (.one (fenced_calm hb hr rfl) stepR_inLoop)) harr₂⟩
   | exit id=>exact ⟨_,a₁,w₁,hq,.pass (x:= .inLoop c) rfl (fun _ _=> .inl (by simp)) harr⟩
   | goto l=>exact ⟨_,a₁,w₁,hq,.pass (x:= .inLoop c) rfl (fun _ _=> .inl (by simp)) harr⟩
   | ret=>exact ⟨_,a₁,w₁,hq,.pass (x:= .inLoop c) rfl (fun _ _=> .inl (by simp)) harr⟩
   | panic ch=>exact ⟨_,a₁,w₁,hq,.pass (x:= .inLoop c) rfl (fun _ _=> .inl (by simp)) harr⟩
   | outgrown=>exact ⟨_,a₁,w₁,hq,.pass (x:= .inLoop c) rfl (fun _ _=> .inl (by simp)) harr⟩
 obtain ⟨e,a',w',hq,harr⟩:=key n a w h
 exact ⟨e,a',w',hq,.of_steps (.one (fenced_calm hb hr rfl) stepR_loop) harr⟩
theorem loop_rounds {b':RC} {b:Code}:∀ k,(∀ m,m < k→Snd P E (exec E hp m) b' b)→∀ (ρ:Option Nat) (_:ρ=none∨noRF b=true) (lo:Nat→Prop) (F:Nat→Prop) (c:Ctx) (base:Nat) (s:St) (e:Ex) (s':St) (a:Act),FR lo (fo P F) E.glob c s a→base≤c.H.length→
 exec E hp k (.loop b') base s=some (e,s')→∀ Q:Exit→Act→World→Prop,(∀ d a',FR lo (fo P F) E.glob d s' a'→Fut base c d→Q (exitOf e) a' d.w)→roundsIn (wd ρ) P b Q k a c.w:=by
 intro k
 induction k with
 | zero=>intro _ ρ hρ lo F c base s e s' a _ _ hex;simp [exec] at hex
 | succ k ih=>
  intro hm ρ hρ lo F c base s e s' a hfr hb hex Q hQ
  rw [roundsIn]
  simp only [exec] at hex
  split at hex
  ·rename_i s1 hs1
   refine hm k (Nat.lt_succ_self _) ρ hρ lo F c base s .normal s1 a hfr hb hs1 _ fun d a' hd hfut=>?_
   exact ih (fun m hlt=>hm m (by omega)) ρ hρ lo F d base s1 e s' a' hd (hfut.len hb) hex Q fun d' a'' hd' hfut'=>hQ d' a'' hd' (hfut.trans hfut')
  ·rename_i r' hne
   refine hm k (Nat.lt_succ_self _) ρ hρ lo F c base s e s' a hfr hb hex _ fun d a' hd hfut=>?_
   cases e with
   | normal=>exact (hne s' hex).elim
   | exit id=>exact hQ d a' hd hfut
   | ret=>exact hQ d a' hd hfut
theorem and_l {ρ:Option Nat} {x y:Bool} (h:ρ=none∨(x&&y)=true):ρ=none∨x=true:=h.imp id fun h=>by simp at h;exact h.1
theorem and_r {ρ:Option Nat} {x y:Bool} (h:ρ=none∨(x&&y)=true):ρ=none∨y=true:=h.imp id fun h=>by simp at h;exact h.2
theorem exec_sound (henv:EnvOk P E):∀ n,(∀ hs code,Snd P E (exec E hp n) (inner P hs code) code)∧(∀ hs code,Snd P E (exec E hp n) (comp P hs code) code):=by
 intro n
 induction n using Nat.strongRecOn with
 | _ n ih=>
 cases n with
 | zero=>exact ⟨fun hs code ρ _ lo F c base s e s' a _ _ hex=>by simp [exec] at hex,fun hs code ρ _ lo F c base s e s' a _ _ hex=>by simp [exec] at hex⟩
 | succ n=>
  have hin:∀ hs code,Snd P E (exec E hp (n+1)) (inner P hs code) code:=by
   intro hs code ρ hρ lo F c base s e s' a hfr hb hex Q hQ
   have IH:=(ih n (Nat.lt_succ_self _)).2
   cases code with
   | skip=>
    simp only [inner,comp,exec,Option.some.injEq,Prod.mk.injEq] at hex
    obtain ⟨rfl,rfl⟩:=hex
    exact wpIn_skip (hQ c a hfr (Fut.refl _ _))
   | ret=>
    simp only [inner,comp,exec,Option.some.injEq,Prod.mk.injEq] at hex
    obtain ⟨rfl,rfl⟩:=hex
    exact wpIn_ret (hQ c a hfr (Fut.refl _ _))
   | exit id=>
    simp only [inner,comp,exec,Option.some.injEq,Prod.mk.injEq] at hex
    obtain ⟨rfl,rfl⟩:=hex
    exact wpIn_exit (hQ c a hfr (Fut.refl _ _))
   | seq x y=>
    simp only [inner,comp,exec] at hex
    refine wpIn_seq ?_
    split at hex
    ·rename_i s1 hs1
     refine IH hs x ρ (and_l hρ) lo F c base s .normal s1 a hfr hb hs1 _ fun d a' hd hfut=>?_
     exact IH hs y ρ (and_r hρ) lo F d base s1 e s' a' hd (hfut.len hb) hex Q fun d' a'' hd' hfut'=>hQ d' a'' hd' (hfut.trans hfut')
    ·rename_i r' hne
     refine IH hs x ρ (and_l hρ) lo F c base s e s' a hfr hb hex _ fun d a' hd hfut=>?_
     cases e with
     | normal=>exact (hne s' hex).elim
     | exit id=>exact hQ d a' hd hfut
     | ret=>exact hQ d a' hd hfut
   | cond x y z=>
    simp only [inner,exec] at hex
    have hx:=ev_V hfr.tr hfr.gl x
    split at hex
    ·rename_i hbv
     rw [hbv] at hx
     generalize hxv:a.eval x=xv at hx
     cases hx
     exact wpIn_cond_true hxv (IH hs y ρ (and_l hρ) lo F c base s e s' a hfr hb hex Q hQ)
    ·rename_i hbv
     rw [hbv] at hx
     generalize hxv:a.eval x=xv at hx
     cases hx
     exact wpIn_cond_false hxv (IH hs z ρ (and_r hρ) lo F c base s e s' a hfr hb hex Q hQ)
    ·simp at hex
   | block id x=>
    simp only [inner,exec] at hex
    refine wpIn_block ?_
    split at hex
    ·rename_i i s1 hs1
     split at hex
     ·rename_i hi
      simp only [Option.some.injEq,Prod.mk.injEq] at hex
      obtain ⟨rfl,rfl⟩:=hex
      refine IH hs x ρ hρ lo F c base s (.exit i) s1 a hfr hb hs1 _ fun d a' hd hfut=>?_
      simp only [exitOf,Exit.inBlock,hi,if_true]
      exact hQ d a' hd hfut
     ·rename_i hi
      simp only [Option.some.injEq,Prod.mk.injEq] at hex
      obtain ⟨rfl,rfl⟩:=hex
      refine IH hs x ρ hρ lo F c base s (.exit i) s1 a hfr hb hs1 _ fun d a' hd hfut=>?_
      simp only [exitOf,Exit.inBlock,hi,if_false]
      exact hQ d a' hd hfut
    ·rename_i r' hne
     refine IH hs x ρ hρ lo F c base s e s' a hfr hb hex _ fun d a' hd hfut=>?_
     cases e with
     | normal=>exact hQ d a' hd hfut
     | exit i=>exact (hne i s' hex).elim
     | ret=>exact hQ d a' hd hfut
   | loop x=>
    have hex':exec E hp (n+1) (.loop (withHint (hintOf hs (1000000+(firstReg x).getD 999999)) (comp P hs x))) base s=some (e,s'):=hex
    refine wpIn_loop_rounds (n+1) (loop_rounds (n+1) (fun m hm=>?_) ρ (show ρ=none∨noRF x=true from hρ) lo F c base s e s' a hfr hb hex' Q hQ)
    cases m with
    | zero=>exact fun ρ _ lo F c base s e s' a _ _ hex=>by simp [exec] at hex
    | succ m=>exact hint_sound _ henv.glob ((ih (m+1) hm).2 hs x) ((ih m (by omega)).2 hs x)
   | region id ops dr=>
    have hlen:(ops.toList.map (compOper P ops)).length=ops.size:=by simp
    cases dr with
    | false=>
     simp only [inner,Bool.false_eq_true,if_false] at hex
     refine wpIn_region ?_
     have:=mid_sound (hp:=hp) (ρ:=ρ) henv ops (hintOf hs id).mid 0 (n+1) (fun m hm=>(ih m hm).2) hfr hb (by simpa using hex) Q hQ
     simpa [List.range_eq_range'] using this
    | true=>
     simp only [inner,if_true] at hex
     have hget:∀ i,i < (ops.toList.map (compOper P ops)).length→∃ h:i < ops.size,(ops.toList.map (compOper P ops)).getD i default=compOper P ops ops[i]:=by
      intro i hi
      have hi':i < ops.size:=by simpa using hi
      exact ⟨hi',by simp [List.getD,hi']⟩
     unfold compDraw at hex
     split at hex
     ·rename_i hlast
      have hl:∃ k,ops.size=k+1∧∀ i,i < k→((Region.before ops).toList.getD k 0).testBit i=true:=by
       unfold lastOk at hlast
       split at hlast
       case h_2=>simp at hlast
       rename_i o ho
       simp only [Bool.and_eq_true,List.all_eq_true,List.mem_range] at hlast
       have hne:ops.size≠0:=by
        intro h0
        have:ops.toList=[]:=by simpa using h0
        rw [this] at ho;simp at ho
       refine ⟨ops.size - 1,by omega,fun i hi=>hlast.1.2 i hi⟩
      obtain ⟨k,hk,hall⟩:=hl
      simp only [exec] at hex
      cases n with
      | zero=>simp [exec] at hex
      | succ n=>
      have IH2:=(ih n (by omega)).2
      have hfl:(ops.toList.map (compOper P ops)).dropLast.length=k:=by simp [hk]
      have hf:∀ i,i < (ops.toList.map (compOper P ops)).dropLast.length→∃ h:i < ops.size,(ops.toList.map (compOper P ops)).dropLast.getD i default=compOper P ops ops[i]:=by
       intro i hi
       obtain ⟨h1,h2⟩:=hget i (by simp at hi ⊢;omega)
       refine ⟨h1,?_⟩
       rw [←h2]
       simp only [List.getD]
       rw [List.getElem?_eq_getElem hi,List.getElem_dropLast,List.getElem?_eq_getElem (by simp;omega)]
      have hsplit:∀ mixed τ,Ord ops ops.size (Region.schedule mixed ops τ)→∃ π,Region.schedule mixed ops τ=π++[k]∧Ord ops (ops.toList.map (compOper P ops)).dropLast.length π:=by
       intro mixed τ ho
       rw [hk] at ho
       rw [hfl]
       exact ho.last hall
      have hdrop:(ops.toList.map (compOper P ops)).drop (ops.size - 1)=[k].map fun i=>(ops.toList.map (compOper P ops)).getD i default:=by
       have hks:k < (ops.toList.map (compOper P ops)).length:=by simp;omega
       rw [hk,Nat.add_sub_cancel,List.drop_eq_getElem_cons hks,List.drop_eq_nil_of_le (by simp;omega)]
       simp only [List.map_cons,List.map_nil,List.getD]
       rw [List.getElem?_eq_getElem hks];rfl
      split at hex
      ·rename_i s1 hs1
       refine wpIn_region_draw fun τ=>drawN_sound henv IH2 hf hsplit hfr hb hs1 (fun _ d a' hd hfut=>?_) τ
       simp only [exec] at hex
       split at hex
       case h_2=>simp at hex
       rename_i t' H' hr
       simp only [Option.some.injEq,Prod.mk.injEq] at hex
       obtain ⟨rfl,rfl⟩:=hex
       rw [hdrop] at hr
       rw [←List.append_nil [k]]
       exact ops_sound (hp:=hp) henv IH2 (.inl rfl) ops (ops.toList.map (compOper P ops)) [] [k] (fun i hi=>hget i (by simp at hi;subst hi;simp;omega)) hd (hfut.len hb) hr fun d' a'' hd' hfut'=>hQ d' a'' hd' (hfut.trans hfut')
      ·rename_i r' hne
       have:e= .normal:=by
        unfold compDrawN at hex
        split at hex
        ·simp only [exec] at hex
         split at hex
         ·simp only [Option.some.injEq,Prod.mk.injEq] at hex;exact hex.1.symm
         ·simp at hex
        split at hex
        ·simp only [exec] at hex
         split at hex
         ·simp only [Option.some.injEq,Prod.mk.injEq] at hex;exact hex.1.symm
         ·simp at hex
        split at hex
        ·simp only [exec] at hex
         split at hex
         ·simp only [Option.some.injEq,Prod.mk.injEq] at hex;exact hex.1.symm
         ·simp at hex
        split at hex
        ·simp only [exec] at hex
         split at hex
         ·simp only [Option.some.injEq,Prod.mk.injEq] at hex;exact hex.1.symm
         ·simp at hex
        ·dsimp only at hex
         split at hex
         ·simp only [exec] at hex
          split at hex
          ·split at hex
           ·simp only [Option.some.injEq,Prod.mk.injEq] at hex;exact hex.1.symm
           ·simp at hex
          ·simp at hex
         ·simp [exec] at hex
       subst this
       exact (hne _ hex).elim
     ·have hnorm:e= .normal:=by
       unfold compDrawN at hex
       split at hex
       ·simp only [exec] at hex
        split at hex
        ·simp only [Option.some.injEq,Prod.mk.injEq] at hex;exact hex.1.symm
        ·simp at hex
       split at hex
       ·simp only [exec] at hex
        split at hex
        ·simp only [Option.some.injEq,Prod.mk.injEq] at hex;exact hex.1.symm
        ·simp at hex
       split at hex
       ·simp only [exec] at hex
        split at hex
        ·simp only [Option.some.injEq,Prod.mk.injEq] at hex;exact hex.1.symm
        ·simp at hex
       split at hex
       ·simp only [exec] at hex
        split at hex
        ·simp only [Option.some.injEq,Prod.mk.injEq] at hex;exact hex.1.symm
        ·simp at hex
       ·dsimp only at hex
        split at hex
        ·simp only [exec] at hex
         split at hex
         ·split at hex
          ·simp only [Option.some.injEq,Prod.mk.injEq] at hex;exact hex.1.symm
          ·simp at hex
         ·simp at hex
        ·simp [exec] at hex
      subst hnorm
      refine wpIn_region_draw fun τ=>drawN_sound (l2:=[]) henv IH hget (fun mixed τ ho=>⟨_,by rw [List.append_nil],by rw [hlen];exact ho⟩) hfr hb hex (fun _ d a' hd hfut=>hQ d a' hd hfut) τ
   | rangeFunc g ps x y=>
    have hnone:ρ=none:=by
     rcases hρ with h | h
     ·exact h
     ·simp [noRF] at h
    subst hnone
    simp only [inner] at hex
    split at hex
    case isFalse=>simp [exec] at hex
    rename_i hnr
    rw [Bool.and_eq_true] at hnr
    simp only [exec] at hex
    split at hex
    case h_2=>simp at hex
    rename_i f cap hg
    split at hex
    case h_2=>simp at hex
    rename_i u H1 hr
    split at hex
    case h_2=>simp at hex
    rename_i e1 he
    simp only [Option.some.injEq,Prod.mk.injEq] at hex
    obtain ⟨rfl,rfl⟩:=hex
    exact rfn_sound henv IH hnr.1 hnr.2 hfr hb hg hr he hQ
   | _=>simp [inner,comp,exec] at hex
  refine ⟨hin,fun hs code=>?_⟩
  obtain ⟨h,he⟩:=comp_inner (P:=P) hs code
  rw [he]
  exact hint_sound h henv.glob (hin hs code) ((ih n (Nat.lt_succ_self _)).1 hs code)
def Pu (E:Env) (hp:Nat→Bool) (f:Nat) (xs:List AV) (r:AV):Prop:=∃ n,cIF E.fns (exec E hp n) f xs=some r
theorem Pu.calls (henv:EnvOk P E) {f:Nat} {xs:List AV} {r:AV} (h:Pu E hp f xs r) {c:Ctx} (hO:∀ b,¬ c.O b) (hH:c.H=[]) (hgl:Glob c E.glob)
 {vs:List Value} (hl:vs.length=xs.length) (hv:∀ i (hi:i < xs.length) (hj:i < vs.length),V c xs[i] vs[i]):
 Calls P f vs.toArray c.w fun e w'=>∃ v,e= .returned v∧(c.w.heap.size≤w'.heap.size∧Same c.w w')∧(∀ b,b < c.w.heap.size→w'.heap[b]?=c.w.heap[b]?)∧r.bel 0=true∧
  ∀ c':Ctx,c'.w=w'→(∀ b,¬ c'.O b)→V c' r v:=by
 obtain ⟨n,hn⟩:=h
 have hsr:SR (fo P fun _=>False) c:=by
  refine ⟨⟨fun id nl sz es h1=>by rw [hH] at h1;simp at h1,fun id id' _ _ _ _ _ _ h1=>by rw [hH] at h1;simp at h1⟩,fun b=>⟨fun h=>(hO b h).elim,fun h=>h.elim (fun h=>h.elim) ?_⟩,fun b h=>h.elim,fun b _ h=>h,.nil hH⟩
  rintro ⟨id,nl,sz,es,h1,_⟩
  rw [hH] at h1;simp at h1
 refine (cI_sound henv (exec_sound henv n).2 hn hsr hH hgl hl hv).mono ?_
 rintro e w' ⟨v,rfl,h1,h2,h3,h4⟩
 exact ⟨v,rfl,h1,h2,h3,fun c' hw hO'=>h4 c' hw fun b hb=>(hO' b hb).elim⟩
end
end Go.Am
end
