/- Parts of my machine and its laws, joined: AmK AmL AmM. No condition. -/
import Derived.Test.YtafgdbaekppjcaaGreatDoorAmF
set_option linter.unusedSectionVars false
set_option linter.unusedVariables false
set_option linter.unusedSimpArgs false
section
namespace Go.Am
section
variable {P:Program} {c:Ctx}
def EqAt (P:Program) (c:Ctx) (d:Nat) (t:TypeId) (ks:List CK):Prop:=
 ∀ D,d≤D→∀ (cs ds:List AV) (xs ys:Array Value) (o:Nat) (b:Bool) (w:World),PV c cs xs→PV c ds ys→
  eqCells ks ((cs.drop o).take ks.length) ((ds.drop o).take ks.length)=some b→
  ∃ px py,(Go.part t xs o).run P w= .ok px w∧(Go.part t ys o).run P w= .ok py w∧(Op.equalIn D t px py).run P w= .ok b w
theorem fields_run (d:Nat):∀ (fs:List Field) (k off:Nat) (ks:List CK),k≤d→
 fieldKinds P k off fs=some ks→(∀ k' t ks',k'≤d→flatKinds P k' t=some ks'→EqAt P c k' t ks')→
 ∀ D,d≤D→∀ (cs ds:List AV) (xs ys:Array Value) (b:Bool) (w:World),PV c cs xs→PV c ds ys→
 eqCells ks (cs.drop off) (ds.drop off)=some b→(Op.eqFields D xs ys fs).run P w= .ok b w:=by
 intro fs
 induction fs with
 | nil=>
  intro k off ks hk h _ D hD cs ds xs ys b w hx hy he
  have:ks=[]:=by cases k<;>simp [fieldKinds] at h<;>exact h
  subst this
  have hb:b=true:=by
   cases h1:cs.drop off<;>cases h2:ds.drop off<;>rw [h1,h2] at he<;>simp [eqCells] at he
   exact he
  subst hb
  simp [Op.eqFields]
 | cons f fs ihf=>
  intro k off ks hk h hall D hD cs ds xs ys b w hx hy he
  cases k with
  | zero=>simp [fieldKinds] at h
  | succ k=>
   simp only [fieldKinds] at h
   split at h
   ·simp at h
   ·rename_i hname
    split at h
    case h_2=>simp at h
    rename_i k1 sz hk1 hsz
    split at h
    case isFalse=>simp at h
    rename_i hc
    obtain ⟨hlen,hoff⟩:=hc
    split at h
    case h_2=>simp at h
    rename_i l hl
    injection h with h
    subst h
    obtain ⟨b1,b2,e1,e2,rfl⟩:=eqCells_append he
    have hne:f.name≠ "_" :=by simpa using hname
    obtain ⟨px,py,r1,r2,r3⟩:=hall k f.type k1 (by omega) hk1 D (by omega) cs ds xs ys off b1 w hx hy e1
    simp only [Op.eqFields,Sem.run_bind,Sem.run_ite]
    rw [if_pos hne,hoff,r1,Result.andThen_ok,r2,Result.andThen_ok,r3,Result.andThen_ok]
    cases b1
    ·simp
    ·simp only [Bool.not_true,Bool.false_eq_true,if_false,Bool.true_and]
     refine ihf k (off+sz) l (by omega) hl hall D hD cs ds xs ys b2 w hx hy ?_
     rw [←hlen]
     simpa [List.drop_drop] using e2
theorem eqCells_rep {k0:List CK}:∀ {n:Nat} {x y:List AV} {b:Bool},eqCells (List.replicate n k0).flatten x y=some b→
 ∃ f:Nat→Bool,(∀ i,i < n→eqCells k0 ((x.drop (i*k0.length)).take k0.length) ((y.drop (i*k0.length)).take k0.length)=some (f i))∧b=(List.range n).all f
 | 0,x,y,b,h=>by
  refine ⟨fun _=>true,by simp,?_⟩
  cases x<;>cases y<;>simp [eqCells] at h ⊢
  exact h
 | n+1,x,y,b,h=>by
  rw [List.replicate_succ,List.flatten_cons] at h
  obtain ⟨b1,b2,e1,e2,rfl⟩:=eqCells_append h
  obtain ⟨f,hf,rfl⟩:=eqCells_rep e2
  refine ⟨fun i=>if i=0 then b1 else f (i - 1),fun i hi=>?_,?_⟩
  ·cases i with
   | zero=>simpa using e1
   | succ i=>
    have:=hf i (by omega)
    simp only [List.drop_drop] at this
    simp only [Nat.succ_ne_zero,if_false,Nat.add_sub_cancel]
    rw [Nat.add_mul,Nat.one_mul,Nat.add_comm (i*k0.length)]
    exact this
  ·rw [List.range_succ_eq_map]
   simp [List.all_map,Function.comp_def]
theorem eq_run:∀ (d:Nat) (t:TypeId) (ks:List CK),flatKinds P d t=some ks→EqAt P c d t ks:=by
 intro d
 induction d using Nat.strongRecOn with
 | _ d ih=>
 intro t ks h
 cases d with
 | zero=>simp [flatKinds] at h
 | succ d=>
  intro D hD cs ds xs ys o b w hx hy he
  obtain ⟨D,rfl⟩:∃ D',D=D'+1:=⟨D - 1,by omega⟩
  simp only [flatKinds] at h
  split at h
  ·rename_i hu
   injection h with h;subst h
   obtain ⟨u,v,h1,h2,h3⟩:=eqCells_one he
   obtain ⟨px,e1,v1⟩:=one_at hx h1
   obtain ⟨py,e2,v2⟩:=one_at hy h2
   refine ⟨px,py,part_scalar hu rfl e1 w,part_scalar hu rfl e2 w,?_⟩
   cases u<;>cases v<;>simp [eqCell] at h3
   cases v1;cases v2
   rw [run_equalIn_bool' w D t _ _ hu,h3]
  ·rename_i k hu
   injection h with h;subst h
   obtain ⟨u,v,h1,h2,h3⟩:=eqCells_one he
   obtain ⟨px,e1,v1⟩:=one_at hx h1
   obtain ⟨py,e2,v2⟩:=one_at hy h2
   refine ⟨px,py,part_scalar hu rfl e1 w,part_scalar hu rfl e2 w,?_⟩
   cases u<;>cases v<;>simp [eqCell] at h3
   obtain ⟨⟨rfl,rfl⟩,h3⟩:=h3
   cases v1;cases v2
   rw [run_equalIn_int w D t _ _ _ _ hu,h3]
  ·rename_i hu
   injection h with h;subst h
   obtain ⟨u,v,h1,h2,h3⟩:=eqCells_one he
   obtain ⟨px,e1,v1⟩:=one_at hx h1
   obtain ⟨py,e2,v2⟩:=one_at hy h2
   refine ⟨px,py,part_scalar hu rfl e1 w,part_scalar hu rfl e2 w,?_⟩
   cases u<;>cases v<;>simp [eqCell] at h3
   cases v1;cases v2
   rw [run_equalIn_string w D t _ _ hu]
   rw [ByteArray.toList_eq,ByteArray.toList_eq,←h3]
  ·rename_i fs hu
   split at h
   ·simp at h
   ·rename_i hst
    split at h
    case h_2=>simp at h
    rename_i ks' hks
    split at h
    case isFalse=>simp at h
    rename_i hsz
    injection h with h;subst h
    refine ⟨_,_,part_agg hu rfl hsz w,part_agg hu rfl hsz w,?_⟩
    have hst':P.stoodInHeld t=false:=by simpa using hst
    rw [run_equalIn_struct w D t _ _ (by rw [fieldsOf_eq hu];exact hu) hst',fieldsOf_eq hu]
    exact fields_run d fs.toList d 0 ks' (Nat.le_refl _) hks (fun k' t ks' hk' hf=>ih k' (by omega) t ks' hf) D (by omega)
     _ _ _ _ b w (hx.sub o _) (hy.sub o _) (by simpa using he)
  ·rename_i n e hu
   split at h
   case h_2=>simp at h
   rename_i k0 sz hk0 hsz0
   split at h
   case isFalse=>simp at h
   rename_i hc
   obtain ⟨hlen,hsz⟩:=hc
   injection h with h;subst h
   have hl:(List.replicate n k0).flatten.length=n*sz:=by simp [hlen]
   rw [hl] at he
   refine ⟨_,_,part_agg hu rfl hsz w,part_agg hu rfl hsz w,?_⟩
   obtain ⟨f,hf,rfl⟩:=eqCells_rep he
   have harr:=run_eqArr (P:=P) w D e sz (xs.extract o (o+n*sz)) (ys.extract o (o+n*sz)) f (List.range n) (fun i hi=>by
    have hin:i < n:=List.mem_range.1 hi
    have hf':=hf i hin
    have:=ih d (by omega) e k0 hk0 D (by omega) _ _ _ _ (i*sz) (f i) w (hx.sub o (n*sz)) (hy.sub o (n*sz)) (by rw [hlen] at hf' ⊢;exact hf')
    exact this)
   simp only [Op.equalIn,Sem.run_bind,run_under hu,Result.andThen_ok,run_szOf hsz0]
   rw [Std.Legacy.Range.forIn_eq_forIn_range']
   simp only [Std.Legacy.Range.size,Nat.sub_zero,Nat.add_sub_cancel,Nat.div_one,List.range_eq_range'] at harr ⊢
   rw [harr]
   cases (List.range' 0 n).all f<;>simp
  ·simp at h
end
end Go.Am
end
section
namespace Go.Am
section
variable {P:Program} {c:Ctx}
theorem chunks_length (sz:Nat):∀ n cs,(chunks sz n cs).length=n
 | 0,_=>rfl
 | n+1,cs=>by simp [chunks,chunks_length sz n]
theorem chunks_get (sz:Nat):∀ (n:Nat) (cs:List AV) (i:Nat) (hi:i < (chunks sz n cs).length),(chunks sz n cs)[i]=(cs.drop (i*sz)).take sz
 | 0,_,i,hi=>by simp [chunks] at hi
 | n+1,cs,0,_=>by simp [chunks]
 | n+1,cs,i+1,hi=>by
  simp only [chunks,List.getElem_cons_succ]
  rw [chunks_get sz n]
  rw [List.drop_drop,Nat.add_mul,Nat.one_mul,Nat.add_comm sz]
theorem pro_chunks {cs:List AV} {a:Addr} (h:V c (.pro cs) (.pointer (some a))) (sz n cap:Nat) (hn:n*sz≤cs.length) (hcap:n≤cap):
 V c (.ro (chunks sz n cs)) (.slice (some a) n cap):=by
 cases h with
 | pro _ _ vs hb0 h1 h3 h4=>
  have hl:=chunks_length sz n cs
  conv=>rhs;rw [←hl]
  have hle:∀ i,i < n→i*sz+sz≤n*sz:=by
   intro i hi
   have:=Nat.mul_le_mul_right sz (show i+1≤n by omega)
   rw [Nat.add_mul,Nat.one_mul] at this
   exact this
  have hlen:∀ i (hi:i < (chunks sz n cs).length),(chunks sz n cs)[i].length=sz:=by
   intro i hi
   rw [chunks_get]
   have:=hle i (by rw [←hl];exact hi)
   simp;omega
  refine .ro _ _ _ sz (fun i j=>vs (i*sz+j)) (fun i j hi hj=>by simp only [chunks_get,List.getElem_take,List.getElem_drop];exact hb0 _ _) (by omega) (fun hne h0=>?_) hlen (fun i j hi hj=>?_) (fun i j hi hj=>?_)
  ·refine h1 ?_
   rintro rfl
   have hn0:0 < n:=by rw [←hl];exact List.length_pos_iff.2 hne
   have:=hle 0 hn0
   simp at hn;omega
  ·rw [hlen i hi] at hj
   have:=hle i (by rw [←hl];exact hi)
   have h5:=h3 (i*sz+j) (by omega)
   rw [←h5];congr 2;omega
  ·have hj':=hj
   rw [hlen i hi] at hj'
   have:=hle i (by rw [←hl];exact hi)
   have h5:=h4 (i*sz+j) (by omega)
   have e:(chunks sz n cs)[i][j]=cs[i*sz+j]'(by omega):=by
    simp only [chunks_get,List.getElem_take,List.getElem_drop]
   rw [e];exact h5
theorem slcA_V {t e:TypeId} {len sz:Nat} (ht:P.underlying t=some (.array len e)) (hsz:szOf P e=some sz) {x r:AV} {xv:Value} {lo hi:Option AV} {lov hiv:Option Value}
 (hx:V c x xv) (hlo:∀ y,lo=some y→∃ yv,lov=some yv∧V c y yv) (hlo':lo=none→lov=none)
 (hhi:∀ y,hi=some y→∃ yv,hiv=some yv∧V c y yv) (hhi':hi=none→hiv=none)
 (h:slcA c.H len sz x lo hi=some r):∃ v,(Instr.sliceAt t xv lov hiv none).run P c.w= .ok v c.w∧V c r v:=by
 unfold slcA at h
 split at h
 case h_2=>simp at h
 rename_i hh eh
 split at h
 case h_2=>simp at h
 rename_i l el
 have hhle:=bnd_le eh
 have hlle:=bnd_le el
 have hb:=run_bounds (P:=P) (isS:=false) (len:=len) (cap:=len) hlo hlo' hhi hhi' (Nat.le_refl _) eh el c.w
 have hrun:∀ a,(Instr.sliceAt t (.pointer (some a)) lov hiv none).run P c.w= .ok (.slice (some (if len=l then a else a.add (l*sz))) (hh - l) (len - l)) c.w:=by
  intro a
  simp only [Instr.sliceAt,Sem.run_bind,run_under ht,Result.andThen_ok,Instr.sureAddr,Sem.run_pure,hb,run_szOf hsz]
 have hmul:l*sz+(hh - l)*sz≤len*sz:=by
  rw [←Nat.add_mul];exact Nat.mul_le_mul_right sz (by omega)
 split at h
 ·rename_i cs
  obtain ⟨a,rfl⟩:∃ a,xv= .pointer (some a):=by cases hx;exact ⟨_,rfl⟩
  refine ⟨_,hrun a,?_⟩
  split at h
  ·rename_i heq
   injection h with h;subst h;subst heq
   simp only [Nat.sub_self]
   exact ro_nil _ _
  ·rename_i hne
   have hcl:¬ len=l:=by omega
   rw [if_neg hcl]
   split at h
   case isFalse=>simp at h
   rename_i hle
   injection h with h;subst h
   refine pro_chunks (pro_drop hx (by omega)) sz (hh - l) _ (by simp;omega) (by omega)
 ·rename_i id ext e' o
  cases hx with
  | pown _ _ _ _ _ hp=>
   obtain ⟨hlt,a,rfl,hsp,hp⟩:=hp
   refine ⟨_,hrun a,?_⟩
   split at h
   ·rename_i heq
    injection h with h;subst h;subst heq
    simp only [Nat.sub_self]
    exact ro_nil _ _
   ·rename_i hne
    have hcl:¬ len=l:=by omega
    rw [if_neg hcl]
    split at h
    case h_2=>simp at h
    rename_i SZ es hl
    obtain ⟨nl,hid⟩:=getLive_some hl
    split at h
    case isFalse=>simp at h
    injection h with h;subst h
    rw [add_addr _ _ hsp]
    refine .arr _ _ _ _ _ _ _ ⟨hlt,_,⟨_,rfl,by omega⟩,rfl,fun nl' sz' es' hid'=>⟨(hp _ _ _ hid').1,fun he'=>?_⟩⟩
    rw [(hp _ _ _ hid').2 he',Nat.add_assoc]
 ·simp at h
theorem eqA_V {t:TypeId} {ks:List CK} (hk:flatKinds P 12 t=some ks) (hg:P.eqGuardType P.depth t=false) {d:TypeDesc} (hu:P.underlying t=some d)
 (hd:(match d with | .struct _ | .array _ _=>true | _=>false)=true) {neg:Bool} {x y r:AV} {xv yv:Value}
 (hx:V c x xv) (hy:V c y yv) (h:eqA neg ks x y=some r) (X Y:Operand):
 ∃ v,(eqGuard (if neg then .neq else .eql) t X Y xv yv >>= fun _=>binOp (if neg then .neq else .eql) t xv yv).run P c.w= .ok v c.w∧V c r v:=by
 unfold eqA at h
 split at h
 ·rename_i cs ds
  cases hx with
  | agg _ xs hxs hxv=>
   cases hy with
   | agg _ ys hys hyv=>
    split at h
    case h_2=>simp at h
    rename_i b hb
    injection h with h;subst h
    obtain ⟨hl1,hl2⟩:=eqCells_len hb
    obtain ⟨px,py,r1,r2,r3⟩:=eq_run (c:=c) 12 t ks hk 10000 (by omega) cs ds xs ys 0 b c.w ⟨hxs,hxv⟩ ⟨hys,hyv⟩ (by
     rw [List.drop_zero,List.drop_zero,List.take_of_length_le (by omega),List.take_of_length_le (by omega)];exact hb)
    have hag:agOf P t=some true:=by
     unfold agOf;rw [hu];cases d<;>simp at hd ⊢
    have hsz:∃ n,szOf P t=some n∧n=ks.length:=by
     unfold flatKinds at hk
     rw [hu] at hk
     cases d<;>simp at hd
     ·rename_i n e
      simp only at hk
      split at hk
      case h_2=>simp at hk
      rename_i k0 sz hk0 hsz0
      split at hk
      case isFalse=>simp at hk
      rename_i hc
      injection hk with hk
      refine ⟨_,hc.2,?_⟩
      rw [←hk];simp [hc.1]
     ·rename_i fs
      simp only at hk
      split at hk
      ·simp at hk
      ·split at hk
       case h_2=>simp at hk
       split at hk
       case isFalse=>simp at hk
       rename_i hc
       injection hk with hk
       exact ⟨_,hc,by rw [hk]⟩
    obtain ⟨n,hn,hnl⟩:=hsz
    have e1:px= .agg xs:=by
     have:=part_agg (P:=P) hu hd hn (vs:=xs) (o:=0) c.w
     rw [this] at r1
     injection r1 with r1
     rw [←r1]
     congr 1
     rw [Nat.zero_add,hnl,←hl1,←hxs];simp
    have e2:py= .agg ys:=by
     have:=part_agg (P:=P) hu hd hn (vs:=ys) (o:=0) c.w
     rw [this] at r2
     injection r2 with r2
     rw [←r2]
     congr 1
     rw [Nat.zero_add,hnl,←hl2,←hys];simp
    subst e1;subst e2
    cases neg
    ·refine ⟨_,?_,V.bool _⟩
     simp only [Bool.false_eq_true,if_false,Sem.run_bind,run_eqGuard_agg c.w _ t X Y xs ys hg,Result.andThen_ok,run_eql_struct,r3]
     simp
    ·refine ⟨_,?_,V.bool _⟩
     simp only [if_true,Sem.run_bind,run_eqGuard_agg c.w _ t X Y xs ys hg,Result.andThen_ok,run_neq_struct,r3]
     simp
 ·simp at h
theorem eqB_V {t:TypeId} (hu:P.underlying t=some .bool) {neg:Bool} {x y r:AV} {xv yv:Value}
 (hx:V c x xv) (hy:V c y yv) (h:eqB neg x y=some r) (X Y:Operand):
 ∃ v,(eqGuard (if neg then .neq else .eql) t X Y xv yv >>= fun _=>binOp (if neg then .neq else .eql) t xv yv).run P c.w= .ok v c.w∧V c r v:=by
 unfold eqB at h
 split at h
 ·rename_i a b
  cases hx;cases hy
  injection h with h;subst h
  have hq:=run_equalIn_bool' (P:=P) c.w 9999 t a b hu
  refine ⟨_,?_,V.bool _⟩
  cases neg
  ·have hg:(eqGuard .eql t X Y (.bool a) (.bool b)).run P c.w= .ok () c.w:=rfl
   simp only [Bool.false_eq_true,if_false,Sem.run_bind,hg,Result.andThen_ok,binOp]
   simp [Op.equal,Op.maxDepth,hq]
  ·have hg:(eqGuard .neq t X Y (.bool a) (.bool b)).run P c.w= .ok () c.w:=rfl
   simp only [if_true,Sem.run_bind,hg,Result.andThen_ok,binOp]
   simp [Op.equal,Op.maxDepth,hq]
 ·simp at h
theorem isNil_V {x:AV} {xv:Value} {b:Bool} (hx:V c x xv) (h:isNil c.H x=some b):
 ∃ a l k,xv= .slice a l k∧a.isNone=b:=by
 unfold isNil at h
 split at h
 ·cases hx;injection h with h;subst h;exact ⟨_,_,_,rfl,rfl⟩
 ·split at h
  ·simp at h
  ·cases hx;injection h with h;subst h;exact ⟨_,_,_,rfl,rfl⟩
 ·rename_i id ext off len
  cases hx with
  | own _ _ _ _ _ how=>
   split at h
   case h_2=>simp at h
   rename_i sz es hl
   obtain ⟨nl,hid⟩:=getLive_some hl
   split at h
   case isFalse=>simp at h
   rename_i hext
   injection h with h
   obtain ⟨_,_,how⟩:=how
   obtain ⟨_,how⟩:=how _ _ _ hid
   obtain ⟨_,how⟩:=how hext
   rcases how with ⟨h1,h2,h3⟩ | ⟨h1,cap,h3,_⟩
   ·subst h3;subst h2
    simp [nlAt,hid,h1] at h
    exact ⟨_,_,_,rfl,by simp [←h]⟩
   ·subst h3
    refine ⟨_,_,_,rfl,?_⟩
    rw [←h]
    simp only [Option.isNone_some,nlAt,hid]
    cases hb:(decide (nl= .nil)&&es.isEmpty) with
    | false=>rfl
    | true=>exfalso;simp at hb;exact h1 hb
 ·simp at h
theorem eqN_V {t e:TypeId} (hu:P.underlying t=some (.slice e)) {neg:Bool} {x y r:AV} {xv yv:Value}
 (hx:V c x xv) (hy:V c y yv) (h:eqN c.H neg x y=some r) (X Y:Operand):
 ∃ v,(eqGuard (if neg then .neq else .eql) t X Y xv yv >>= fun _=>binOp (if neg then .neq else .eql) t xv yv).run P c.w= .ok v c.w∧V c r v:=by
 have key:∀ (a a':Option Addr) (l k l' k':Nat) (b:Bool),((a.isNone=b∧a'=none)∨(a'.isNone=b∧a=none))→∃ v,(eqGuard (if neg then .neq else .eql) t X Y (.slice a l k) (.slice a' l' k') >>= fun _=>binOp (if neg then .neq else .eql) t (.slice a l k) (.slice a' l' k')).run P c.w= .ok v c.w∧V c (.bool (b !=neg)) v:=by
  intro a a' l k l' k' b hb
  have hq:∀ d,(Op.equalIn (d+1) t (.slice a l k) (.slice a' l' k')).run P c.w= .ok b c.w:=by
   intro d
   rcases hb with ⟨h1,rfl⟩ | ⟨h1,rfl⟩
   ·cases a<;>simp at h1<;>subst h1<;>simp [Op.equalIn,run_under hu]
   ·cases a'<;>simp at h1<;>subst h1<;>simp [Op.equalIn,run_under hu]
  replace hq:=hq 9999
  refine ⟨_,?_,V.bool _⟩
  cases neg
  ·have hg:(eqGuard .eql t X Y (.slice a l k) (.slice a' l' k')).run P c.w= .ok () c.w:=rfl
   simp only [Bool.false_eq_true,if_false,Sem.run_bind,hg,Result.andThen_ok,binOp]
   simp [Op.equal,Op.maxDepth,hq]
  ·have hg:(eqGuard .neq t X Y (.slice a l k) (.slice a' l' k')).run P c.w= .ok () c.w:=rfl
   simp only [if_true,Sem.run_bind,hg,Result.andThen_ok,binOp]
   simp [Op.equal,Op.maxDepth,hq]
 unfold eqN at h
 split at h
 ·split at h
  case h_2=>simp at h
  rename_i b hb
  injection h with h;subst h
  obtain ⟨a,l,k,rfl,ha⟩:=isNil_V hx hb
  cases hy
  exact key _ _ _ _ _ _ _ (.inl ⟨ha,rfl⟩)
 ·split at h
  case h_2=>simp at h
  rename_i b hb
  injection h with h;subst h
  obtain ⟨a,l,k,rfl,ha⟩:=isNil_V hy hb
  cases hx
  exact key _ _ _ _ _ _ _ (.inr ⟨ha,rfl⟩)
 ·simp at h
theorem lenOf_V {x:AV} {xv:Value} {n:Int} (hx:V c x xv) (h:lenOf x=some n):∃ a l k,xv= .slice a l k∧n=l:=by
 unfold lenOf at h
 split at h
 ·cases hx<;>(injection h with h;exact ⟨_,_,_,rfl,h.symm⟩)
 ·cases hx with
  | own _ _ _ _ _ how=>obtain ⟨_,⟨a,cap,rfl⟩,_⟩:=how;injection h with h;exact ⟨_,_,_,rfl,h.symm⟩
 ·cases hx with
  | arr _ _ _ _ _ _ _ ha=>obtain ⟨_,a,⟨cap,rfl,_⟩,_⟩:=ha;injection h with h;exact ⟨_,_,_,rfl,h.symm⟩
 ·cases hx;injection h with h;exact ⟨_,_,_,rfl,h.symm⟩
 ·simp at h
theorem isNilP_V {x:AV} {xv:Value} {b:Bool} (hx:V c x xv) (h:isNilP x=some b):∃ a,xv= .pointer a∧a.isNone=b:=by
 unfold isNilP at h
 split at h
 ·cases hx;injection h with h;subst h;exact ⟨_,rfl,rfl⟩
 ·cases hx;injection h with h;subst h;exact ⟨_,rfl,rfl⟩
 ·cases hx with
  | pown _ _ _ _ _ hp=>obtain ⟨_,_,rfl,_⟩:=hp;injection h with h;subst h;exact ⟨_,rfl,rfl⟩
 ·simp at h
theorem eqP_V {t e:TypeId} (hu:P.underlying t=some (.pointer e)) {neg:Bool} {x y r:AV} {xv yv:Value}
 (hx:V c x xv) (hy:V c y yv) (h:eqP neg x y=some r) (X Y:Operand):
 ∃ v,(eqGuard (if neg then .neq else .eql) t X Y xv yv >>= fun _=>binOp (if neg then .neq else .eql) t xv yv).run P c.w= .ok v c.w∧V c r v:=by
 have key:∀ (a a':Option Addr) (b:Bool),((a.isNone=b∧a'=none)∨(a'.isNone=b∧a=none))→∃ v,(eqGuard (if neg then .neq else .eql) t X Y (.pointer a) (.pointer a') >>= fun _=>binOp (if neg then .neq else .eql) t (.pointer a) (.pointer a')).run P c.w= .ok v c.w∧V c (.bool (b !=neg)) v:=by
  intro a a' b hb
  have hq:∀ d,(Op.equalIn (d+1) t (.pointer a) (.pointer a')).run P c.w= .ok b c.w:=by
   intro d
   rcases hb with ⟨h1,rfl⟩ | ⟨h1,rfl⟩
   ·cases a<;>simp at h1<;>subst h1<;>simp [Op.equalIn,run_under hu]
   ·cases a'<;>simp at h1<;>subst h1<;>simp [Op.equalIn,run_under hu]
  replace hq:=hq 9999
  refine ⟨_,?_,V.bool _⟩
  cases neg
  ·have hg:(eqGuard .eql t X Y (.pointer a) (.pointer a')).run P c.w= .ok () c.w:=rfl
   simp only [Bool.false_eq_true,if_false,Sem.run_bind,hg,Result.andThen_ok,binOp]
   simp [Op.equal,Op.maxDepth,hq]
  ·have hg:(eqGuard .neq t X Y (.pointer a) (.pointer a')).run P c.w= .ok () c.w:=rfl
   simp only [if_true,Sem.run_bind,hg,Result.andThen_ok,binOp]
   simp [Op.equal,Op.maxDepth,hq]
 unfold eqP at h
 split at h
 ·split at h
  case h_2=>simp at h
  rename_i b hb
  injection h with h;subst h
  obtain ⟨a,rfl,ha⟩:=isNilP_V hx hb
  cases hy
  exact key _ _ _ (.inl ⟨ha,rfl⟩)
 ·split at h
  case h_2=>simp at h
  rename_i b hb
  injection h with h;subst h
  obtain ⟨a,rfl,ha⟩:=isNilP_V hy hb
  cases hx
  exact key _ _ _ (.inr ⟨ha,rfl⟩)
 ·simp at h
theorem nchk_V {x r:AV} {xv:Value} (hx:V c x xv) (h:nchk x=some r):r=x∧((∃ a,xv= .pointer (some a))∨∃ f fs cap,xv= .func (.func f) fs cap):=by
 unfold nchk at h
 split at h
 ·injection h with h;cases hx;exact ⟨h.symm,.inl ⟨_,rfl⟩⟩
 ·injection h with h
  cases hx with
  | pown _ _ _ _ _ hp=>obtain ⟨_,_,rfl,_⟩:=hp;exact ⟨h.symm,.inl ⟨_,rfl⟩⟩
 ·injection h with h;cases hx;exact ⟨h.symm,.inr ⟨_,_,_,rfl⟩⟩
 ·injection h with h;cases hx;exact ⟨h.symm,.inr ⟨_,_,_,rfl⟩⟩
 ·simp at h
end
end Go.Am
end
section
namespace Go.Am
section
variable {P:Program} {c:Ctx}
theorem cells_one {x:AV} {xv:Value} (hx:V c x xv) (h:x.one=true):xv.cells=#[xv]∧xv.oneCell'=true:=by
 cases hx with
 | own _ _ _ _ _ how=>obtain ⟨_,⟨_,_,rfl⟩,_⟩:=how;exact ⟨rfl,rfl⟩
 | pown _ _ _ _ _ how=>obtain ⟨_,_,rfl,_⟩:=how;exact ⟨rfl,rfl⟩
 | arr _ _ _ _ _ _ _ how=>obtain ⟨_,_,⟨_,rfl,_⟩,_⟩:=how;exact ⟨rfl,rfl⟩
 | any | agg | tup=>simp [AV.one] at h
 | _=>exact ⟨rfl,rfl⟩
theorem allOne_get:∀ {l:List AV},allOne l=true→∀ x∈l,x.one=true
 | [],_,x,hx=>by simp at hx
 | y::l,h,x,hx=>by
  simp only [allOne,Bool.and_eq_true] at h
  rcases List.mem_cons.1 hx with rfl | hx
  ·exact h.1
  ·exact allOne_get h.2 x hx
theorem cells_V {x:AV} {xv:Value} (hx:V c x xv) (h:allOne x.cells=true):PV c x.cells xv.cells∧∀ u∈xv.cells.toList,u.oneCell'=true:=by
 by_cases hag:∃ cs,x= .agg cs
 ·obtain ⟨cs,rfl⟩:=hag
  cases hx with
  | agg _ vs hs hv=>
   refine ⟨⟨hs,hv⟩,fun u hu=>?_⟩
   simp only [Value.cells] at hu
   obtain ⟨i,hi,rfl⟩:=List.getElem_of_mem hu
   have hi':i < cs.length:=by simp at hi;omega
   exact (cells_one (hv i hi' (by simpa using hi)) (allOne_get h _ (List.getElem_mem hi'))).2
 ·have hc:x.cells=[x]:=by
   cases x<;>first | rfl | (exfalso;exact hag ⟨_,rfl⟩)
  rw [hc] at h ⊢
  have h1:x.one=true:=by simpa [allOne] using h
  obtain ⟨e,o⟩:=cells_one hx h1
  rw [e]
  refine ⟨⟨rfl,fun i hi hj=>?_⟩,?_⟩
  ·have:i=0:=by simp at hi;omega
   subst this;exact hx
  ·simp [o]
theorem putAt_length:∀ (xs cs:List AV) (o:Nat),(putAt cs o xs).length=cs.length
 | [],_,_=>rfl
 | x::xs,cs,o=>by simp [putAt,putAt_length xs]
theorem putAt_get:∀ (xs cs:List AV) (o i:Nat) (hi:i < (putAt cs o xs).length),o+xs.length≤cs.length→
 (putAt cs o xs)[i]=if h:o≤i∧i < o+xs.length then xs[i - o]'(by omega) else cs[i]'(by rw [putAt_length] at hi;exact hi)
 | [],cs,o,i,hi,_=>by
  rw [dif_neg (by simp)]
  simp [putAt]
 | x::xs,cs,o,i,hi,h=>by
  simp only [putAt]
  rw [putAt_get xs (cs.set o x) (o+1) i (by simpa [putAt] using hi) (by simp at h ⊢;omega)]
  by_cases h1:o+1≤i∧i < o+1+xs.length
  ·rw [dif_pos h1,dif_pos (by simp;omega)]
   have:i - o=(i - (o+1))+1:=by omega
   simp [this]
  ·rw [dif_neg h1]
   by_cases h2:i=o
   ·subst h2
    rw [dif_pos (by simp)]
    simp
   ·rw [dif_neg (by simp;omega)]
    rw [List.getElem_set_ne (by omega)]
theorem foldl_set_size (cells:List Value):∀ (k:Nat) (acc:Array Value) (off:Nat),((cells.zipIdx k).foldl (fun cs (x:Value×Nat)=>cs.setIfInBounds (off+x.2) x.1) acc).size=acc.size:=by
 induction cells with
 | nil=>intros;rfl
 | cons x xs ih=>intro k acc off;simp [List.zipIdx_cons,ih]
theorem foldl_set_PV:∀ (xs:List AV) (vs:List Value) (k:Nat) (cs:List AV) (acc:Array Value) (off:Nat),PV c cs acc→
 vs.length=xs.length→(∀ i (hi:i < xs.length) (hj:i < vs.length),V c xs[i] vs[i])→
 PV c (putAt cs (off+k) xs) ((vs.zipIdx k).foldl (fun cs (x:Value×Nat)=>cs.setIfInBounds (off+x.2) x.1) acc)
 | [],[],k,cs,acc,off,h,_,_=>h
 | x::xs,v::vs,k,cs,acc,off,h,hl,hv=>by
  simp only [putAt,List.zipIdx_cons,List.foldl_cons]
  refine foldl_set_PV xs vs (k+1) (cs.set (off+k) x) _ off ⟨by simp [h.1],fun i hi hj=>?_⟩ (by simpa using hl) (fun i hi hj=>?_)
  ·simp at hi hj
   rw [List.getElem_set,Array.getElem_setIfInBounds]
   ·split
    ·exact hv 0 (by simp) (by simp)
    ·exact h.2 i hi hj
  ·exact hv (i+1) (by simp;omega) (by simp;omega)
 | [],_::_,_,_,_,_,_,hl,_=>by simp at hl
 | _::_,[],_,_,_,_,_,hl,_=>by simp at hl
theorem fillA_PV (place:Nat→Option (Nat×Nat)):∀ (ps:List (Nat×Nat×AV)) (vs:List (Nat×Value)) (cs:List AV) (acc:Array Value) (r:List AV),
 PV c cs acc→vs.length=ps.length→(∀ i (hi:i < ps.length) (hj:i < vs.length),place vs[i].1=some (ps[i].1,ps[i].2.1)∧V c ps[i].2.2 vs[i].2)→
 fillA cs ps=some r→∃ acc',Instr.fill place acc vs=some acc'∧PV c r acc'
 | [],[],cs,acc,r,h,_,_,hf=>by simp [fillA] at hf;subst hf;exact ⟨acc,rfl,h⟩
 | (o,n,x)::ps,(i,v)::vs,cs,acc,r,h,hl,hv,hf=>by
  simp only [fillA] at hf
  split at hf
  case isFalse=>simp at hf
  rename_i hc
  obtain ⟨h1,h2,h3⟩:=hc
  obtain ⟨hp,hx⟩:=hv 0 (by simp) (by simp)
  simp only [List.getElem_cons_zero] at hp hx
  obtain ⟨hPV,_⟩:=cells_V hx h3
  have hsz:v.cells.size=n:=by rw [hPV.1];exact h1
  obtain ⟨acc',e1,e2⟩:=fillA_PV place ps vs (putAt cs o x.cells) (v.cells.zipIdx.foldl (fun cs (x:Value×Nat)=>cs.setIfInBounds (o+x.2) x.1) acc) r
   (by
    have:=foldl_set_PV x.cells v.cells.toList 0 cs acc o h (by simpa using hPV.1) (fun i hi hj=>by simpa using hPV.2 i hi (by simpa using hj))
    rw [←Array.foldl_toList,Array.toList_zipIdx]
    exact this) (by simpa using hl) (fun i hi hj=>by have:=hv (i+1) (by simp;omega) (by simp;omega);simpa using this) hf
  refine ⟨acc',?_,e2⟩
  simp only [Instr.fill,hp]
  rw [if_neg]
  ·exact e1
  ·have:acc.size=cs.length:=h.1
   simp only [Bool.or_eq_true,decide_eq_true_eq,not_or]
   refine ⟨by simp [hsz],by omega⟩
 | [],_::_,_,_,_,_,hl,_,_=>by simp at hl
 | _::_,[],_,_,_,_,hl,_,_=>by simp at hl
theorem opt_V {G:Nat→List AV} {t:List AV} {a:Act} (ht:TR c t a.tmps) (hg:Glob c G) (x:Option Operand):
 (∀ y,(x.map cx).map (·.ev G t)=some y→∃ yv,x.map a.eval=some yv∧V c y yv)∧((x.map cx).map (·.ev G t)=none→x.map a.eval=none):=by
 cases x with
 | none=>exact ⟨by simp,by simp⟩
 | some x=>
  refine ⟨fun y hy=>?_,by simp⟩
  simp at hy
  subst hy
  exact ⟨_,rfl,ev_V ht hg x⟩
theorem args_V {G:Nat→List AV} {t:List AV} {a:Act} (ht:TR c t a.tmps) (hg:Glob c G) (l:List Operand):
 ∀ i (hi:i < ((l.map cx).map (·.ev G t)).length) (hj:i < (l.map a.eval).length),V c ((l.map cx).map (·.ev G t))[i] (l.map a.eval)[i]:=by
 intro i hi hj
 simp only [List.getElem_map]
 exact ev_V ht hg _
theorem fold_V {f:AV→AV→Option AV} {g:Value→Value→Sem Value}
 (hfg:∀ x y r xv yv,V c x xv→V c y yv→f x y=some r→∃ v,(g xv yv).run P c.w= .ok v c.w∧V c r v):
 ∀ (l:List AV) (vs:List Value) (x r:AV) (xv:Value),V c x xv→vs.length=l.length→(∀ i (hi:i < l.length) (hj:i < vs.length),V c l[i] vs[i])→
 foldO f x l=some r→∃ v,(vs.foldlM g xv).run P c.w= .ok v c.w∧V c r v
 | [],[],x,r,xv,hx,_,_,h=>by simp [foldO] at h;subst h;exact ⟨xv,rfl,hx⟩
 | y::l,yv::vs,x,r,xv,hx,hl,hv,h=>by
  simp only [foldO] at h
  split at h
  case h_2=>simp at h
  rename_i z hz
  obtain ⟨v,e,hV⟩:=hfg x y z xv yv hx (hv 0 (by simp) (by simp)) hz
  obtain ⟨u,e2,hU⟩:=fold_V hfg l vs z r v hV (by simpa using hl) (fun i hi hj=>hv (i+1) (by simp;omega) (by simp;omega)) h
  refine ⟨u,?_,hU⟩
  simp only [List.foldlM_cons,Sem.run_bind,e,Result.andThen_ok]
  exact e2
 | [],_::_,_,_,_,_,hl,_,_=>by simp at hl
 | _::_,[],_,_,_,_,hl,_,_=>by simp at hl
theorem min2_V (x y r:AV) (xv yv:Value) (hx:V c x xv) (hy:V c y yv) (h:min2 x y=some r):∃ v,(Builtin.min2 xv yv).run P c.w= .ok v c.w∧V c r v:=by
 unfold min2 at h
 split at h
 ·cases hx;cases hy;injection h with h;subst h;exact ⟨_,rfl,V.int _ _⟩
 ·simp at h
theorem max2_V (x y r:AV) (xv yv:Value) (hx:V c x xv) (hy:V c y yv) (h:max2 x y=some r):∃ v,(Builtin.max2 xv yv).run P c.w= .ok v c.w∧V c r v:=by
 unfold max2 at h
 split at h
 ·cases hx;cases hy;injection h with h;subst h;exact ⟨_,rfl,V.int _ _⟩
 ·simp at h
theorem fold_list {f:AV→AV→Option AV} {g:Value→Value→Sem Value}
 (hfg:∀ x y r xv yv,V c x xv→V c y yv→f x y=some r→∃ v,(g xv yv).run P c.w= .ok v c.w∧V c r v)
 {l:List AV} {vs:List Value} {r:AV} (hl:vs.length=l.length) (hv:∀ i (hi:i < l.length) (hj:i < vs.length),V c l[i] vs[i])
 (h:(match l with | x::q=>foldO f x q | []=>none)=some r):∃ x q v,vs=x::q∧(q.foldlM g x).run P c.w= .ok v c.w∧V c r v:=by
 cases l with
 | nil=>simp at h
 | cons x l=>
  cases vs with
  | nil=>simp at hl
  | cons xv vs=>
   obtain ⟨v,e,hV⟩:=fold_V hfg l vs x r xv (hv 0 (by simp) (by simp)) (by simpa using hl) (fun i hi hj=>hv (i+1) (by simp;omega) (by simp;omega)) h
   exact ⟨xv,vs,v,rfl,e,hV⟩
end
end Go.Am
end
