/- Operations that read, joined. Conditions: the relation of the values and of the heap. -/
import Derived.Test.YtafgdbaekppjcaaGreatDoorAmK
set_option linter.unusedSectionVars false
set_option linter.unusedVariables false
set_option linter.unusedSimpArgs false
namespace Go.Am
section
variable {P:Program} {c:Ctx}
def Reads (P:Program) (c:Ctx) (a:Act) (o:Oper) (v:AV):Prop:=∃ v',(execOp a.eval o).run P c.w= .ok (.value v') c.w∧V c v v'
theorem reads_of {a:Act} {o:Oper} {v:AV} {s:Sem Value} (he:execOp a.eval o=(do pure (.value (← s)))) (h:∃ v',s.run P c.w= .ok v' c.w∧V c v v'):Reads P c a o v:=by
 obtain ⟨v',h1,h2⟩:=h
 exact ⟨v',by rw [he];simp [h1],h2⟩
theorem zeroOf_some {t:TypeId} {z:List AV} (h:zeroOf P t=some z):∃ i zv,P.info? t=some i∧i.zero=some zv∧z=zv.cells.toList.map simple:=by
 unfold zeroOf at h
 split at h
 ·rename_i i hi
  split at h
  ·rename_i zv hz
   injection h with h
   exact ⟨i,zv,hi,hz,h.symm⟩
  ·simp at h
 ·simp at h
theorem run_zero {t:TypeId} {i:TypeInfo} {zv:Value} (hi:P.info? t=some i) (hz:i.zero=some zv) (w:World):(zeroValue t).run P w= .ok zv w:=by
 simp [zeroValue,typeInfo,hi,hz]
theorem zero_PV (zv:Value):PV c (zv.cells.toList.map simple) zv.cells:=by
 refine ⟨by simp,fun i hi hj=>?_⟩
 simp only [List.getElem_map,Array.getElem_toList]
 exact simple_V c _
theorem run_fieldPlaces:∀ (l:List Field) (w:World),(l.all fun f=>(szOf P f.type).isSome)=true→
 ((l.mapM (fun f=>(do pure (f.offset,←sizeOf f.type):Sem (Nat×Nat)))):Sem (List (Nat×Nat))).run P w= .ok (l.map fun f=>(f.offset,(szOf P f.type).getD 0)) w
 | [],w,_=>by simp
 | f::l,w,h=>by
  simp only [List.all_cons,Bool.and_eq_true,Option.isSome_iff_exists] at h
  obtain ⟨⟨n,hn⟩,h⟩:=h
  have ih:=run_fieldPlaces l w h
  rw [List.mapM_cons]
  simp only [Sem.run_bind,run_szOf hn,Result.andThen_ok,Sem.run_pure]
  rw [ih]
  simp [hn]
theorem compFields_get {fs:Array Field}:∀ {parts:List (Nat×Operand)} {l:List (Nat×Nat×RX)},compFields P fs parts=some l→
 l.length=parts.length∧∀ i (hi:i < l.length) (hj:i < parts.length),∃ f,fs[parts[i].1]?=some f∧l[i].1=f.offset∧szOf P f.type=some l[i].2.1∧l[i].2.2=cx parts[i].2
 | [],l,h=>by simp [compFields] at h;subst h;simp
 | (j,x)::r,l,h=>by
  simp only [compFields] at h
  split at h
  case h_2=>simp at h
  rename_i f l' hf hl'
  split at h
  case h_2=>simp at h
  rename_i n hn
  injection h with h;subst h
  obtain ⟨e1,e2⟩:=compFields_get hl'
  refine ⟨by simp [e1],fun i hi hj=>?_⟩
  cases i with
  | zero=>exact ⟨f,hf,rfl,hn,rfl⟩
  | succ i=>simpa using e2 i (by simpa using hi) (by simpa using hj)
theorem build_struct {t:TypeId} {fs:Array Field} {z:List AV} (hu:P.underlying t=some (.struct fs)) (hz:zeroOf P t=some z)
 (hall:(fs.toList.all fun f=>(szOf P f.type).isSome)=true) {parts:List (Nat×Operand)} {l:List (Nat×Nat×RX)} (hc:compFields P fs parts=some l)
 {G:Nat→List AV} {tm:List AV} {a:Act} (ht:TR c tm a.tmps) (hg:Glob c G) {cs:List AV}
 (hf:fillA z (l.map fun (x:Nat×Nat×RX)=>(x.1,x.2.1,x.2.2.ev G tm))=some cs):
 ∃ v,(Instr.build t (parts.map fun (x:Nat×Operand)=>(x.1,a.eval x.2)).toArray).run P c.w= .ok v c.w∧V c (.agg cs) v:=by
 obtain ⟨i,zv,hi,hzv,rfl⟩:=zeroOf_some hz
 obtain ⟨e1,e2⟩:=compFields_get hc
 have hpl:((fs.mapM (fun f=>(do pure (f.offset,←sizeOf f.type):Sem (Nat×Nat)))):Sem (Array (Nat×Nat))).run P c.w= .ok (fs.toList.map fun f=>(f.offset,(szOf P f.type).getD 0)).toArray c.w:=by
  rw [Array.mapM_eq_mapM_toList]
  simp only [Sem.run_map]
  rw [run_fieldPlaces fs.toList c.w hall]
  simp
 obtain ⟨acc,h1,h2⟩:=fillA_PV (c:=c) (fun j=>((fs.toList.map fun f=>(f.offset,(szOf P f.type).getD 0)).toArray)[j]?)
  (l.map fun (x:Nat×Nat×RX)=>(x.1,x.2.1,x.2.2.ev G tm)) (parts.map fun (x:Nat×Operand)=>(x.1,a.eval x.2)) _ zv.cells cs (zero_PV zv) (by simp [e1]) (by
   intro i hi hj
   obtain ⟨f,f1,f2,f3,f4⟩:=e2 i (by simpa using hi) (by simpa using hj)
   simp only [List.getElem_map]
   refine ⟨?_,by rw [f4];exact ev_V ht hg _⟩
   simp only [List.getElem?_toArray,List.getElem?_map,Array.getElem?_toList]
   rw [f1]
   simp [f2,f3]) hf
 refine ⟨.agg acc,?_,.agg _ _ h2.1 h2.2⟩
 unfold Instr.build
 simp only [Sem.run_bind,run_zero hi hzv,Result.andThen_ok,run_under hu]
 rw [hpl]
 simp only [Result.andThen_ok]
 rw [h1]
 rfl
theorem build_array {t e:TypeId} {n sz:Nat} {z:List AV} (hu:P.underlying t=some (.array n e)) (hz:zeroOf P t=some z) (hsz:szOf P e=some sz)
 {parts:List (Nat×Operand)} {G:Nat→List AV} {tm:List AV} {a:Act} (ht:TR c tm a.tmps) (hg:Glob c G) {cs:List AV}
 (hf:fillA z ((parts.map fun (x:Nat×Operand)=>(x.1*sz,sz,cx x.2)).map fun (x:Nat×Nat×RX)=>(x.1,x.2.1,x.2.2.ev G tm))=some cs):
 ∃ v,(Instr.build t (parts.map fun (x:Nat×Operand)=>(x.1,a.eval x.2)).toArray).run P c.w= .ok v c.w∧V c (.agg cs) v:=by
 obtain ⟨i,zv,hi,hzv,rfl⟩:=zeroOf_some hz
 obtain ⟨acc,h1,h2⟩:=fillA_PV (c:=c) (fun i=>some (i*sz,sz)) _ (parts.map fun (x:Nat×Operand)=>(x.1,a.eval x.2)) _ zv.cells cs (zero_PV zv) (by simp) (by
  intro i hi hj
  constructor
  ·simp
  ·simp only [List.getElem_map]
   exact ev_V ht hg _) hf
 refine ⟨.agg acc,?_,.agg _ _ h2.1 h2.2⟩
 unfold Instr.build
 simp only [Sem.run_bind,run_zero hi hzv,Result.andThen_ok,run_under hu,run_szOf hsz]
 rw [h1]
 rfl
theorem pr_sound (hr:HR c) {G:Nat→List AV} {t:List AV} {a:Act} (ht:TR c t a.tmps) (hg:Glob c G) (o:Oper) {v:AV}
 (h:evalP G t (compOp P o)=some v∨evalR G t c.H (compOp P o)=some v):Reads P c a o v:=by
 have E:=fun x=>ev_V ht hg x
 unfold compOp at h
 cases hop:o.op with
 | move x=>simp only [hop,evalP,evalR,reduceCtorEq,or_false,Option.some.injEq] at h;subst h;exact ⟨_,by simp only [execOp,hop];rfl,E x⟩
 | assign x=>simp only [hop,evalP,evalR,reduceCtorEq,or_false,Option.some.injEq] at h;subst h;exact ⟨_,by simp only [execOp,hop];rfl,E x⟩
 | pick q x y=>
  simp only [hop,evalP,evalR,reduceCtorEq,or_false] at h
  have hq:=E q
  split at h
  ·rename_i hb;rw [hb] at hq;injection h with h;subst h
   generalize hqv:a.eval q=qv at hq;cases hq
   exact ⟨_,by simp [execOp,hop,hqv,asBool],E x⟩
  ·rename_i hb;rw [hb] at hq;injection h with h;subst h
   generalize hqv:a.eval q=qv at hq;cases hq
   exact ⟨_,by simp [execOp,hop,hqv,asBool],E y⟩
  ·simp at h
 | build ty parts=>
  simp only [hop] at h
  split at h
  ·rename_i z fs hz hu
   split at h
   ·rename_i hall
    split at h
    ·rename_i l hc
     simp only [evalP,evalR,reduceCtorEq,or_false] at h
     split at h
     ·rename_i cs hcs
      injection h with h;subst h
      refine reads_of (s:=Instr.build ty (parts.map fun (i,x)=>(i,a.eval x))) (by simp only [execOp,hop]) ?_
      obtain ⟨v,e,hV⟩:=build_struct hu hz hall hc ht hg hcs
      refine ⟨v,?_,hV⟩
      rw [←e];congr 2
      apply Array.ext';simp
     ·simp at h
    ·simp [evalP,evalR] at h
   ·simp [evalP,evalR] at h
  ·rename_i z n e hz hu
   split at h
   ·rename_i sz hsz
    simp only [evalP,evalR,reduceCtorEq,or_false] at h
    split at h
    ·rename_i cs hcs
     injection h with h;subst h
     refine reads_of (s:=Instr.build ty (parts.map fun (i,x)=>(i,a.eval x))) (by simp only [execOp,hop]) ?_
     obtain ⟨v,e,hV⟩:=build_array hu hz hsz ht hg hcs
     refine ⟨v,?_,hV⟩
     rw [←e];congr 2
     apply Array.ext';simp
    ·simp at h
   ·simp [evalP,evalR] at h
  ·simp [evalP,evalR] at h
 | load ty x=>
  simp only [hop] at h
  split at h
  ·rename_i n ag hn ha
   simp only [evalP,evalR,reduceCtorEq,false_or] at h
   exact reads_of (s:=Instr.loadAt ty (a.eval x)) (by simp only [execOp,hop]) (load_V hr hn ha (E x) h)
  ·simp [evalP,evalR] at h
 | binOp op ty x y yt=>
  simp only [hop] at h
  have hbin:∀ op',op=op'→∀ r,bin op' ((cx x).ev G t) ((cx y).ev G t)=some r→Reads P c a o r:=by
   rintro _ rfl r hb
   refine reads_of (s:=(do eqGuard op ty x y (a.eval x) (a.eval y);binOp op ty (a.eval x) (a.eval y))) (by simp only [execOp,hop]) ?_
   exact bin_V (E x) (E y) hb ty x y c.w
  have hcmp:∀ (neg:Bool),op=(if neg then .neq else .eql)→∀ r,(evalP G t (compEq P neg ty (cx x) (cx y))=some r∨evalR G t c.H (compEq P neg ty (cx x) (cx y))=some r)→Reads P c a o r:=by
   intro neg hneg r hb
   refine reads_of (s:=(do eqGuard op ty x y (a.eval x) (a.eval y);binOp op ty (a.eval x) (a.eval y))) (by simp only [execOp,hop]) ?_
   unfold compEq at hb
   split at hb
   ·simp only [evalP,evalR,reduceCtorEq,or_false] at hb;rw [←hneg] at hb;exact bin_V (E x) (E y) hb ty x y c.w
   ·simp only [evalP,evalR,reduceCtorEq,or_false] at hb;rw [←hneg] at hb;exact bin_V (E x) (E y) hb ty x y c.w
   ·rename_i hu
    simp only [evalP,evalR,reduceCtorEq,or_false] at hb;subst hneg;exact eqB_V hu (E x) (E y) hb x y
   ·rename_i e hu
    simp only [evalP,evalR,reduceCtorEq,false_or] at hb;subst hneg;exact eqN_V hu (E x) (E y) hb x y
   ·rename_i e hu
    simp only [evalP,evalR,reduceCtorEq,or_false] at hb;subst hneg;exact eqP_V hu (E x) (E y) hb x y
   ·rename_i fs hu
    split at hb
    ·rename_i ks hks
     split at hb
     ·simp [evalP,evalR] at hb
     ·rename_i hg'
      simp only [evalP,evalR,reduceCtorEq,or_false] at hb;subst hneg
      exact eqA_V hks (by simpa using hg') hu rfl (E x) (E y) hb x y
    ·simp [evalP,evalR] at hb
   ·rename_i n e hu
    split at hb
    ·rename_i ks hks
     split at hb
     ·simp [evalP,evalR] at hb
     ·rename_i hg'
      simp only [evalP,evalR,reduceCtorEq,or_false] at hb;subst hneg
      exact eqA_V hks (by simpa using hg') hu rfl (E x) (E y) hb x y
    ·simp [evalP,evalR] at hb
   ·simp [evalP,evalR] at hb
  split at h
  ·exact hcmp false rfl _ h
  ·exact hcmp true rfl _ h
  ·simp only [evalP,evalR,reduceCtorEq,or_false] at h;exact hbin _ rfl _ h
 | unOp op ty x=>
  simp only [hop,evalP,evalR,reduceCtorEq,or_false] at h
  exact reads_of (s:=Op.unary op (a.eval x)) (by simp only [execOp,hop]) (un_V (E x) h)
 | nilCheck x=>
  simp only [hop,evalP,evalR,reduceCtorEq,or_false] at h
  have hx:=E x
  obtain ⟨rfl,hsh⟩:=nchk_V hx h
  rcases hsh with ⟨q,hq⟩ | ⟨f,fs,cap,hq⟩
  ·rw [hq] at hx
   exact ⟨_,by simp only [execOp,hop,hq];rfl,hx⟩
  ·rw [hq] at hx
   exact ⟨_,by simp only [execOp,hop,hq];rfl,hx⟩
 | convert src dst x=>
  simp only [hop] at h
  split at h
  ·rename_i d k hs hd
   simp only [evalP,evalR,reduceCtorEq,or_false] at h
   have hx:=E x
   split at h
   ·rename_i k' n hb;rw [hb] at hx;injection h with h;subst h
    generalize hxv:a.eval x=xv at hx;cases hx
    refine reads_of (s:=convert src dst (a.eval x)) (by simp only [execOp,hop]) ⟨_,?_,V.int _ _⟩
    rw [hxv]
    unfold convert
    simp only [Sem.run_bind,run_under hs,run_under hd,Result.andThen_ok]
    cases d<;>rfl
   ·simp at h
  ·rename_i k hs hd
   simp only [evalP,evalR,reduceCtorEq,or_false] at h
   have hx:=E x
   unfold i2s at h
   split at h
   ·rename_i k' n hb;rw [hb] at hx;injection h with h;subst h
    generalize hxv:a.eval x=xv at hx;cases hx
    refine reads_of (s:=convert src dst (a.eval x)) (by simp only [execOp,hop]) ⟨_,?_,V.str _⟩
    rw [hxv]
    unfold convert
    simp only [Sem.run_bind,run_under hs,run_under hd,Result.andThen_ok]
    show (Conv.intToString n).run P c.w=_
    simp [Conv.intToString]
   ·simp at h
  ·split at h<;>simp [evalP,evalR] at h
  ·simp [evalP,evalR] at h
 | field ty x f=>
  simp only [hop] at h
  split at h
  ·rename_i fs hu
   split at h
   ·rename_i fd hfd
    split at h
    ·rename_i n ag hn ha
     simp only [evalP,evalR,reduceCtorEq,or_false] at h
     have hx:=E x
     split at h
     ·rename_i cs hb;rw [hb] at hx
      exact reads_of (s:=Instr.field ty (a.eval x) f) (by simp only [execOp,hop]) (fld_V hu hfd hn ha hx h)
     ·simp at h
    ·simp [evalP,evalR] at h
   ·simp [evalP,evalR] at h
  ·simp [evalP,evalR] at h
 | fieldAddr ty x f=>
  simp only [hop] at h
  split at h
  ·rename_i fs hu
   split at h
   ·rename_i fd hfd
    split at h
    ·rename_i n hn
     simp only [evalP,evalR,reduceCtorEq,or_false] at h
     exact reads_of (s:=Instr.fieldAt ty (a.eval x) f) (by simp only [execOp,hop]) (fad_V hu hfd hn (E x) h)
    ·simp [evalP,evalR] at h
   ·simp [evalP,evalR] at h
  ·simp [evalP,evalR] at h
 | indexAddr ty x i=>
  simp only [hop] at h
  split at h
  ·rename_i len e hu
   split at h
   ·rename_i sz hsz
    simp only [evalP,evalR,reduceCtorEq,or_false] at h
    exact reads_of (s:=Instr.indexAt ty (a.eval x) (a.eval i)) (by simp only [execOp,hop]) (iadA_V hu hsz (E x) (E i) h)
   ·simp [evalP,evalR] at h
  ·rename_i e hu
   split at h
   ·rename_i sz hsz
    simp only [evalP,evalR,reduceCtorEq,false_or] at h
    exact reads_of (s:=Instr.indexAt ty (a.eval x) (a.eval i)) (by simp only [execOp,hop]) (iadS_V hu hsz (E x) (E i) h)
   ·simp [evalP,evalR] at h
  ·simp [evalP,evalR] at h
 | index ty x i=>
  simp only [hop] at h
  split at h
  ·rename_i len e hu
   split at h
   ·rename_i n ag hn ha
    simp only [evalP,evalR,reduceCtorEq,or_false] at h
    exact reads_of (s:=Instr.index ty (a.eval x) (a.eval i)) (by simp only [execOp,hop]) (idxA_V hu hn ha (E x) (E i) h)
   ·simp [evalP,evalR] at h
  ·rename_i hu
   simp only [evalP,evalR,reduceCtorEq,or_false] at h
   exact reads_of (s:=Instr.index ty (a.eval x) (a.eval i)) (by simp only [execOp,hop]) (idxS_V hu (E x) (E i) h)
  ·simp [evalP,evalR] at h
 | slice ty x lo hi mx=>
  cases mx with
  | some m=>simp [hop,evalP,evalR] at h
  | none=>
   obtain ⟨l1,l2⟩:=opt_V ht hg lo
   obtain ⟨h1,h2⟩:=opt_V ht hg hi
   simp only [hop] at h
   split at h
   ·rename_i hu
    simp only [evalP,evalR,reduceCtorEq,or_false] at h
    exact reads_of (s:=Instr.sliceAt ty (a.eval x) (lo.map a.eval) (hi.map a.eval) none) (by simp only [execOp,hop,Option.map_none]) (slcS_V hu (E x) l1 l2 h1 h2 h)
   ·rename_i e hu
    split at h
    ·rename_i sz hsz
     simp only [evalP,evalR,reduceCtorEq,false_or] at h
     exact reads_of (s:=Instr.sliceAt ty (a.eval x) (lo.map a.eval) (hi.map a.eval) none) (by simp only [execOp,hop,Option.map_none]) (slc_V hr hu hsz (E x) l1 l2 h1 h2 h)
    ·simp [evalP,evalR] at h
   ·rename_i n e hu
    split at h
    ·rename_i sz hsz
     simp only [evalP,evalR,reduceCtorEq,false_or] at h
     exact reads_of (s:=Instr.sliceAt ty (a.eval x) (lo.map a.eval) (hi.map a.eval) none) (by simp only [execOp,hop,Option.map_none]) (slcA_V hu hsz (E x) l1 l2 h1 h2 h)
    ·simp [evalP,evalR] at h
   ·simp [evalP,evalR] at h
 | makeFunc fn first cap=>
  cases fn with
  | func f=>
   simp only [hop] at h
   split at h
   ·rename_i hfirst
    simp only [evalP,evalR,reduceCtorEq,or_false,Option.some.injEq] at h;subst h
    have:first=#[]:=by simpa using hfirst
    subst this
    refine reads_of (s:=Instr.makeFunc (.func f) ((#[]:Array Operand).map a.eval) (cap.map a.eval)) (by simp only [execOp,hop]) ⟨_,rfl,?_⟩
    rw [show (#[]:Array Operand).map a.eval=#[] from by simp]
    refine .fn f ((cap.toList.map cx).map (·.ev G t)) (cap.map a.eval) (by simp) fun i hi hj=>?_
    simpa using E _
   ·split at h
    case isFalse=>simp [evalP,evalR] at h
    rename_i hcap
    simp only [evalP,evalR,reduceCtorEq,or_false,Option.some.injEq] at h;subst h
    have:cap=#[]:=by simpa using hcap
    subst this
    refine reads_of (s:=Instr.makeFunc (.func f) (first.map a.eval) ((#[]:Array Operand).map a.eval)) (by simp only [execOp,hop]) ⟨_,rfl,?_⟩
    rw [show (#[]:Array Operand).map a.eval=#[] from by simp]
    refine .bnd f ((first.toList.map cx).map (·.ev G t)) (first.map a.eval) (by simp) fun i hi hj=>?_
    simpa using E _
  | _=>simp [hop,evalP,evalR] at h
 | extract x i=>
  simp only [hop,evalP,evalR,reduceCtorEq,or_false] at h
  have hx:=E x
  split at h
  ·rename_i vs hb;rw [hb] at hx
   generalize hxv:a.eval x=xv at hx
   cases hx with
   | tup _ us hs hv=>
    obtain ⟨hi,rfl⟩:=List.getElem?_eq_some_iff.1 h
    have hi':i < us.size:=by rw [hs];exact hi
    refine reads_of (s:=Instr.extract (a.eval x) i) (by simp only [execOp,hop]) ⟨us[i],?_,hv i hi hi'⟩
    rw [hxv]
    simp [Instr.extract,Array.getElem?_eq_getElem hi']
  ·simp at h
 | call cl=>
  simp only [hop] at h
  have hargs:=args_V ht hg cl.args.toList
  have hbi:∀ b,cl.callee= .builtin b→execOp a.eval o=builtin b cl.argTypes o.type (cl.args.map fun | .const _=>true | _=>false) (cl.args.map a.eval):=by
   intro b hb
   simp only [execOp,hop,resolve,hb]
   rfl
  split at h
  ·simp [evalP,evalR] at h
  ·simp [evalP,evalR] at h
  ·rename_i hcal
   have hex:=hbi _ hcal
   split at h
   ·rename_i ty x hty hx
    have hargs':cl.args.map a.eval=#[a.eval x]:=by
     apply Array.ext';simp [hx]
    split at h
    ·rename_i hu
     simp only [evalP,evalR,reduceCtorEq,or_false] at h
     split at h
     case h_2=>simp at h
     rename_i n hn
     injection h with h;subst h
     have hx:=E x
     simp only [lenOp,if_true] at hn
     split at hn
     case h_2=>simp at hn
     rename_i s hs
     rw [hs] at hx
     injection hn with hn;subst hn
     generalize hxv:a.eval x=xv at hx hargs';cases hx
     refine ⟨_,?_,V.int _ _⟩
     have hsz:(⟨s.toArray⟩:ByteArray).size=s.length:=by simp [ByteArray.size]
     rw [hex,hargs',←hsz]
     simp [builtin,Builtin.len_,hty,run_under hu,goInt]
    ·rename_i e hu
     simp only [evalP,evalR,reduceCtorEq,or_false] at h
     split at h
     case h_2=>simp at h
     rename_i n hn
     injection h with h;subst h
     simp only [lenOp,Bool.false_eq_true,if_false] at hn
     obtain ⟨q,l,k,hs,rfl⟩:=lenOf_V (E x) hn
     refine ⟨_,?_,V.int _ _⟩
     rw [hex,hargs',hs]
     simp [builtin,Builtin.len_,hty,run_under hu,goInt]
    ·rename_i n e hu
     simp only [evalP,evalR,reduceCtorEq,or_false,Option.some.injEq] at h
     subst h
     refine ⟨_,?_,V.int _ _⟩
     rw [hex,hargs']
     simp [builtin,Builtin.len_,hty,run_under hu,goInt]
    ·simp [evalP,evalR] at h
    ·simp [evalP,evalR] at h
   ·simp [evalP,evalR] at h
  ·split at h
   ·(repeat' split at h)<;>simp [evalP,evalR] at h
   ·simp [evalP,evalR] at h
  ·rename_i hcal
   simp only [evalP,evalR,reduceCtorEq,or_false] at h
   have h':(match (cl.args.toList.map cx).map (·.ev G t) with | x::r=>foldO min2 x r | []=>none)=some v:=h
   obtain ⟨x,q,u,e1,e2,e3⟩:=fold_list (P:=P) (g:=Builtin.min2) min2_V (by simp) hargs h'
   refine ⟨u,?_,e3⟩
   rw [hbi _ hcal]
   simp only [builtin,Builtin.min_]
   have:(cl.args.map a.eval).toList=x::q:=by rw [←e1];simp
   simp only [this,Sem.run_bind,e2,Result.andThen_ok,Sem.run_pure]
  ·rename_i hcal
   simp only [evalP,evalR,reduceCtorEq,or_false] at h
   have h':(match (cl.args.toList.map cx).map (·.ev G t) with | x::r=>foldO max2 x r | []=>none)=some v:=h
   obtain ⟨x,q,u,e1,e2,e3⟩:=fold_list (P:=P) (g:=Builtin.max2) max2_V (by simp) hargs h'
   refine ⟨u,?_,e3⟩
   rw [hbi _ hcal]
   simp only [builtin,Builtin.max_]
   have:(cl.args.map a.eval).toList=x::q:=by rw [←e1];simp
   simp only [this,Sem.run_bind,e2,Result.andThen_ok,Sem.run_pure]
  ·rename_i hcal
   have hex:=hbi _ hcal
   split at h
   ·rename_i ty x hty hx
    have hargs':cl.args.map a.eval=#[a.eval x]:=by
     apply Array.ext';simp [hx]
    split at h
    ·rename_i e hu
     simp only [evalP,evalR,reduceCtorEq,or_false] at h
     split at h
     case h_2=>simp at h
     rename_i hs
     injection h with h;subst h
     have hx:=E x
     rw [hs] at hx
     generalize hxv:a.eval x=xv at hx hargs';cases hx
     refine ⟨_,?_,V.int _ _⟩
     rw [hex,hargs']
     simp [builtin,Builtin.cap_,hty,run_under hu,goInt]
    ·simp [evalP,evalR] at h
   ·simp [evalP,evalR] at h
  ·simp [evalP,evalR] at h
 | makeMap ty r=>cases r<;>simp [hop,evalP,evalR] at h
 | next x b=>cases b<;>simp [hop,evalP,evalR] at h
 | _=>simp only [hop] at h;(repeat' split at h)<;>simp [evalP,evalR] at h
end
end Go.Am
