/- Parts of my machine and its laws, joined: AmG AmH AmI AmJ AmK. No condition. -/
import Derived.Test.YtafgdbaekppjcaaGreatDoorAmE2
set_option linter.unusedSectionVars false
set_option linter.unusedVariables false
set_option linter.unusedSimpArgs false
section
namespace Go.Am
structure HR (c:Ctx):Prop where
 back:∀ id nl sz es,c.H[id]?=some (.live nl sz es)->¬(nl= .nil/\es=[])->
  ∃ cells elem,c.w.heap[c.ι id]?=some (.cells cells elem (0,0))/\cells.size=c.K id*sz/\es.length<=c.K id/\c.O (c.ι id)/\
   ∀ i (hi:i < es.length),es[i].length=sz/\∀ j (hj:j < es[i].length),∃ u,cells[i*sz+j]?=some u/\V c es[i][j] u
 inj:∀ id id' nl sz es nl' sz' es',c.H[id]?=some (.live nl sz es)->¬(nl= .nil/\es=[])->c.H[id']?=some (.live nl' sz' es')->¬(nl'= .nil/\es'=[])->
  c.ι id=c.ι id'->id < id'->nl.old=true/\nl'.CC=true/\sz=sz'/\es.length<=es'.length
def TR (c:Ctx) (t:List AV) (ts:Array Value):Prop:=ts.size=t.length/\∀ i (h:i < t.length) (h':i < ts.size),V c t[i] ts[i]
def gU (c:Ctx) (G:Nat->List AV):Prop:=∀ g,V c (.bR (G g)) (.pointer (some ⟨g,0,none⟩))
theorem r4 (c:Ctx) (v:Value):V c (simple v) v:=by
 unfold simple;split
 ·exact .bool _
 ·exact .int _ _
 ·rename_i s;exact .str s.data.toList
 ·exact .gZ
 ·exact .bF
 ·exact .jw
 ·exact .nu
 ·exact .any _
theorem zR (c:Ctx) (v:Value):V c (ofValue v) v:=by
 cases v with
 | agg cs=>
  refine .agg _ _ (by simp) fun i hi hj=>?_
  simp only [zay,zbC];exact r4 c _
 | bool b=>exact .bool b
 | int k n=>exact .int k n
 | string s=>exact .str s.data.toList
 | pointer p=>exact r4 c (.pointer p)
 | slice p l k=>exact r4 c (.slice p l k)
 | nilFunc=>exact .jw
 | nilIface=>exact .nu
 | _=>exact .any _
theorem vL {c:Ctx} {G:Nat->List AV} {t:List AV} {a:Act} (ht:TR c t a.tmps) (hg:gU c G) (x:Operand):V c ((cx x).ev G t) (a.eval x):=by
 cases x with
 | tmp n=>
  simp only [cx,RX.ev,Act.eval];by_cases h:n < t.length
  ·have h':n < a.tmps.size:=by rw [ht.1];exact h
   rw [zbu,za1 h,zaz,zbo,zam h',zaz];exact ht.2 n h h'
  ·rw [zbu,zao (Nat.le_of_not_lt h),Option.getD_none];exact .any _
 | const v=>exact zR c v
 | global g=>exact hg g
 | func f=>exact .fn f [] #[] rfl fun i hi=>by simp at hi
section
variable {P:Program} {c:Ctx}
theorem aA {t:TypeId} {d:TypeDesc} (h:P.underlying t=some d) (w:World):(underlying t).run P w= .ok d w:=run_underlying h w
theorem bZ {t:TypeId} {n:Nat} (h:cW P t=some n) (w:World):(sizeOf t).run P w= .ok n w:=by
 unfold cW at h;split at h
 ·rename_i i hi;injection h with h
  simp [sizeOf,typeInfo,hi,h]
 ·simp at h
theorem jW {t:TypeId} {b:Bool} (h:nw P t=some b) (w:World):(isAgg t).run P w= .ok b w:=by
 unfold nw at h;unfold isAgg;split at h
 ·rename_i fs hu;injection h with h;simp [aA hu,<-h]
 ·rename_i n e hu;injection h with h;simp [aA hu,<-h]
 ·rename_i d hn1 hn2 hu;injection h with h
  simp only [Sem.run_bind,aA hu,Result.andThen_ok]
  cases d<;>first | (simp [<-h];done) | (exfalso;exact hn1 _ hu) | (exfalso;exact hn2 _ _ hu)
 ·simp at h
theorem add_eq (b o n:Nat):(⟨b,o,none⟩:Addr).add n=⟨b,o+n,none⟩:=by
 unfold Addr.add;split<;>simp_all
theorem sy {t:TypeId} {n:Nat} {ag:Bool} (hn:cW P t=some n) (ha:nw P t=some ag) {cs:List AV} {o:Nat} {x:AV} (hp:part n ag cs o=some x)
 {b off:Nat} (vs:Nat->Value) (h3:∀ j,j < cs.length->c.w.cell? ⟨b,off+j,none⟩=some (vs j)) (h4:∀ j (hj:j < cs.length),V c cs[j] (vs j)):
 ∃ v,(loadVar t ⟨b,off+o,none⟩).run P c.w= .ok v c.w/\V c x v:=by
 unfold part at hp
 cases ag with
 | true=>
  simp only [if_true] at hp;split at hp
  ·rename_i hle;injection hp with hp
   subst hp;have hl:=run_loadCells (P:=P) c.w ⟨b,off+o,none⟩ n (fun j=>vs (o+j)) (fun j hj=>by
    rw [add_eq,Nat.add_assoc];exact h3 (o+j) (by omega))
   refine ⟨_,by unfold loadVar;simp only [Sem.run_bind,jW ha,Result.andThen_ok,if_true,bZ hn,hl];rfl,?_⟩;refine .agg _ _ (by simp;omega) fun i hi hj=>?_
   simp only [zar,zas];simp at hj;simpa using h4 (o+i) (by omega)
  ·simp at hp
 | false=>
  simp only [za9,if_false] at hp;obtain ⟨ho,rfl⟩:=zab.1 hp;refine ⟨vs o,?_,h4 o ho⟩;unfold loadVar;simp only [Sem.run_bind,jW ha,Result.andThen_ok,za9,if_false,run_load,h3 o ho]
theorem bB {H:List Obj} {id sz:Nat} {es:List (List AV)} (h:aC H id=some (sz,es)):∃ nl,H[id]?=some (.live nl sz es):=by
 unfold aC at h;split at h
 ·rename_i nl sz' es' he;simp at h;obtain ⟨rfl,rfl⟩:=h;exact ⟨nl,he⟩
 ·simp at h
theorem j6 (hr:HR c) {id:Nat} {nl:Fl} {sz:Nat} {es:List (List AV)} (h:c.H[id]?=some (.live nl sz es)) {e:Nat} (he:e < es.length):
 ∃ vs:Nat->Value,es[e].length=sz/\(∀ j,j < es[e].length->c.w.cell? ⟨c.ι id,e*sz+j,none⟩=some (vs j))/\∀ j (hj:j < es[e].length),V c es[e][j] (vs j):=by
 obtain ⟨cells,elem,h1,_,_,_,h5⟩:=hr.back id nl sz es h (by rintro ⟨_,rfl⟩;simp at he);obtain ⟨h6,h7⟩:=h5 e he;refine ⟨fun j=>(cells[e*sz+j]?).getD undef,h6,fun j hj=>?_,fun j hj=>?_⟩
 ·obtain ⟨u,hu,_⟩:=h7 j hj;simp [World.cell?,h1,hu]
 ·obtain ⟨u,hu,hv⟩:=h7 j hj;simpa [hu] using hv
theorem MT (hr:HR c) {t:TypeId} {n:Nat} {ag:Bool} (hn:cW P t=some n) (ha:nw P t=some ag) {p x:AV} {pv:Value} (hp:V c p pv)
 (h:loadAt c.H n ag p=some x):∃ v,(Instr.loadAt t pv).run P c.w= .ok v c.w/\V c x v:=by
 unfold loadAt at h;split at h
 ·rename_i cs
  cases hp with
  | bR _ a vs hb h1 h3 h4=>
   by_cases hc:cs=[]
   ·subst hc;unfold part at h
    cases ag with
    | true=>
     simp only [if_true] at h;split at h
     ·rename_i hle;simp at hle;subst hle;injection h with h
      subst h;refine ⟨.agg #[],?_,.agg _ _ (by simp) fun i hi=>by simp at hi⟩;simp [Instr.loadAt,Instr.sureAddr,loadVar,jW ha,bZ hn,loadCells,loadCellsFrom]
     ·simp at h
    | false=>simp at h
   ·obtain ⟨hs,_⟩:=h1 hc;obtain ⟨v,hv,hV⟩:=sy (P:=P) hn ha h vs h3 h4;refine ⟨v,?_,hV⟩;have:a=⟨a.block,a.off+0,none⟩:=by cases a;simp at hs ⊢;exact hs
    rw [this];simp only [Instr.loadAt,Instr.sureAddr,Sem.run_bind,Sem.run_pure,Result.andThen_ok];exact hv
 ·rename_i id ext e o;split at h
  ·rename_i sz es hl;obtain ⟨nl,hid⟩:=bB hl;split at h
   ·rename_i eU;split at h
    ·rename_i cs hcs;obtain ⟨he,rfl⟩:=zab.1 hcs
     cases hp with
     | aJ _ _ _ _ _ KS=>
      obtain ⟨_,a,rfl,_,KS⟩:=KS;have:=(KS nl _ es hid).2 eU;subst this;obtain ⟨vs,_,h3,h4⟩:=j6 hr hid he;obtain ⟨v,hv,hV⟩:=sy (P:=P) hn ha h vs h3 h4;refine ⟨v,?_,hV⟩;simp only [Instr.loadAt,Instr.sureAddr,Sem.run_bind,Sem.run_pure,Result.andThen_ok];exact hv
    ·simp at h
   ·simp at h
  ·simp at h
 ·simp at h
theorem MZ {t:TypeId} {n:Nat} {ag:Bool} (hn:cW P t=some n) (ha:nw P t=some ag) {cs:List AV} {vs:Array Value} (hs:vs.size=cs.length)
 (hv:∀ i (hi:i < cs.length) (hj:i < vs.size),V c cs[i] vs[i]) {o:Nat} {x:AV} (hp:Am.part n ag cs o=some x) (w:World):
 ∃ v,(Go.part t vs o).run P w= .ok v w/\V c x v:=by
 unfold Am.part at hp
 cases ag with
 | true=>
  simp only [if_true] at hp;split at hp
  ·rename_i hle;injection hp with hp;subst hp
   refine ⟨.agg (vs.extract o (o+n)),by simp [Go.part,jW ha,bZ hn],?_⟩;refine .agg _ _ (by simp;omega) fun i hi hj=>?_
   simp at hi hj;simp only [zar,zas,Array.getElem_extract];exact hv (o+i) (by omega) (by omega)
  ·simp at hp
 | false=>
  simp only [za9,if_false] at hp;obtain ⟨ho,rfl⟩:=zab.1 hp;have ho':o < vs.size:=by omega
  refine ⟨vs[o],by simp [Go.part,jW ha,zam ho'],hv o ho ho'⟩
theorem L3 {op:BinOp} {x y r:AV} {xv yv:Value} (hx:V c x xv) (hy:V c y yv) (h:bin op x y=some r) (t:TypeId) (X Y:Operand) (w:World):
 ∃ v,(eqGuard op t X Y xv yv >>= fun _=>binOp op t xv yv).run P w= .ok v w/\V c r v:=by
 unfold bin at h;split at h
 ·rename_i k a k' b
  cases hx;cases hy;have hg:(eqGuard op t X Y (.int k a) (.int k' b)).run P w= .ok () w:=by
   unfold eqGuard;cases op<;>rfl
  simp only [Sem.run_bind,hg,Result.andThen_ok];have hint:∀ op,(op= .shl->False)->(op= .shr->False)->(if k=k' then Bc op k a b else none)=some r->
   ∃ v,(binOp op t (.int k a) (.int k' b)).run P w= .ok v w/\V c r v:=by
   intro op n1 n2 h;split at h
   ·rename_i hk;subst hk
    cases op<;>simp only [Bc] at h<;>first
     | exact (n1 rfl).elim
     | exact (n2 rfl).elim
     | (injection h with h;subst h
        first
         | (refine ⟨_,?_,V.int _ _⟩;simp only [binOp,ne_eq,not_true_eq_false,if_false];rfl)
         | (refine ⟨_,?_,V.bool _⟩;simp only [binOp,ne_eq,not_true_eq_false,if_false];rfl))
     | (split at h
        ·simp at h
        ·rename_i hb;injection h with h;subst h
         refine ⟨_,?_,V.int _ _⟩;simp only [binOp,ne_eq,not_true_eq_false,if_false,Op.intDiv,hb];rfl)
   ·simp at h
  split at h
  ·split at h
   ·simp at h
   ·rename_i hb;injection h with h;subst h;refine ⟨_,?_,V.int _ _⟩;simp [binOp,Op.shift,hb]
  ·split at h
   ·simp at h
   ·rename_i hb;injection h with h;subst h;refine ⟨_,?_,V.int _ _⟩;simp [binOp,Op.shift,hb]
  ·rename_i n1 n2;exact hint op n1 n2 h
 ·rename_i a b
  cases hx;cases hy;have hg:(eqGuard op t X Y (.string ⟨a.toArray⟩) (.string ⟨b.toArray⟩)).run P w= .ok () w:=by
   unfold eqGuard;cases op<;>rfl
  simp only [Sem.run_bind,hg,Result.andThen_ok];have e:∀ l:List UInt8,(⟨l.toArray⟩:ByteArray).toList=l:=fun l=>by rw [ByteArray.toList_eq]
  cases op
  case add=>
   simp only [JM] at h;split at h
   ·rename_i hb;injection h with h;subst h
    refine ⟨_,?_,V.str _⟩;have h1:¬ (((ByteArray.size ⟨a.toArray⟩+ByteArray.size ⟨b.toArray⟩:Nat):Int) > IntKind.i64.max):=by
     have e1:ByteArray.size ⟨a.toArray⟩=a.length:=by simp [ByteArray.size]
     have e2:ByteArray.size ⟨b.toArray⟩=b.length:=by simp [ByteArray.size]
     have h2:IntKind.i64.max=9223372036854775807:=by decide
     have h3:(2:Nat)^40=1099511627776:=by decide
     rw [e1,e2,h2];omega
    simp only [binOp,Op.stringOp];rw [if_neg h1];simp only [Sem.run_pure];congr 2
   ·simp at h
  all_goals first
   | (injection h with h;subst h;refine ⟨_,?_,V.bool _⟩;simp [binOp,Op.stringOp,e];done)
   | (simp [JM] at h;done)
 ·simp at h
end
end Go.Am
end
section
namespace Go.Am
section
variable {P:Program} {c:Ctx}
theorem BZ {d m:Nat} {x:Option AV} {xv:Option Value} {n:Nat} (hx:∀ y,x=some y->∃ yv,xv=some yv/\V c y yv) (hn:x=none->xv=none)
 (h:eD d m x=some n):(x=none/\xv=none/\n=d)\/(∃ k i,xv=some (.int k i)/\0<=i/\i<=(m:Int)/\n=i.toNat/\x≠none):=by
 unfold eD at h;split at h
 ·injection h with h;exact .inl ⟨rfl,hn rfl,h.symm⟩
 ·rename_i k i;split at h
  ·rename_i hb;injection h with h
   obtain ⟨yv,e,hv⟩:=hx _ rfl
   cases hv;exact .inr ⟨k,i,e,hb.1,hb.2,h.symm,by simp⟩
  ·simp at h
 ·simp at h
theorem gR {k:IntKind} {i:Int} {y:Nat} (code:BoundsCode) (h0:0<=i) (h1:i<=(y:Int)) (w:World):
 (Instr.sliceBound (.int k i) y code).run P w= .ok i.toNat w:=by
 simp [Instr.sliceBound,asIntOf,h0,h1]
theorem fW {Tr:Bool} {len len' cap:Nat} {lo hi:Option AV} {Cv hiv:Option Value} {l h:Nat}
 (hlo:∀ y,lo=some y->∃ yv,Cv=some yv/\V c y yv) (uV:lo=none->Cv=none)
 (hhi:∀ y,hi=some y->∃ yv,hiv=some yv/\V c y yv) (vS:hi=none->hiv=none) (hcap:len'<=cap)
 (h1:eD len len' hi=some h) (h2:eD 0 h lo=some l) (w:World):
 (Instr.sliceBounds Tr len cap Cv hiv none).run P w= .ok (l,h,cap) w:=by
 unfold Instr.sliceBounds;rcases BZ hhi vS h1 with ⟨_,rfl,rfl⟩ | ⟨k,i,rfl,i0,i1,rfl,_⟩
 ·rcases BZ hlo uV h2 with ⟨_,rfl,rfl⟩ | ⟨k,i,rfl,i0,i1,rfl,_⟩
  ·simp
  ·simp [gR _ i0 i1]
 ·have:i<=(cap:Int):=by omega
  rcases BZ hlo uV h2 with ⟨_,rfl,rfl⟩ | ⟨k',i',rfl,j0,j1,rfl,_⟩
  ·simp [gR _ i0 this]
  ·simp [gR _ i0 this,gR _ j0 j1]
theorem kW {d m n:Nat} {x:Option AV} (h:eD d m x=some n):n<=max d m:=by
 unfold eD at h;split at h
 ·injection h with h;omega
 ·split at h
  ·injection h with h;omega
  ·simp at h
 ·simp at h
theorem jU (a:Addr) (n:Nat) (h:a.spot=none):a.add n=⟨a.block,a.off+n,none⟩:=by
 cases a;simp at h;subst h;exact add_eq _ _ _
theorem sU (a:Addr) (cap:Nat):V c (.ro []) (.slice (some a) 0 cap):=
 .ro [] a cap 0 (fun _ _=>undef) (fun i j hi=>by simp at hi) (by simp) (by simp) (by simp) (by intro i j hi;simp at hi) (by intro i j hi;simp at hi)
theorem aa3 (hr:HR c) {t e:TypeId} {sz:Nat} (ht:P.underlying t=some (.slice e)) (hsz:cW P e=some sz) {x r:AV} {xv:Value} {lo hi:Option AV} {Cv hiv:Option Value}
 (hx:V c x xv) (hlo:∀ y,lo=some y->∃ yv,Cv=some yv/\V c y yv) (uV:lo=none->Cv=none)
 (hhi:∀ y,hi=some y->∃ yv,hiv=some yv/\V c y yv) (vS:hi=none->hiv=none)
 (h:slc c.H sz x lo hi=some r):∃ v,(Instr.sliceAt t xv Cv hiv none).run P c.w= .ok v c.w/\V c r v:=by
 have hrun:∀ (a:Option Addr) (len cap l h:Nat),(Instr.sliceBounds true len cap Cv hiv none).run P c.w= .ok (l,h,cap) c.w->
  (Instr.sliceAt t (.slice a len cap) Cv hiv none).run P c.w= .ok (.slice (if cap=l then a else a.map (·.add (l*sz))) (h - l) (cap - l)) c.w:=by
  intro a len cap l h hb;simp only [Instr.sliceAt,Sem.run_bind,aA ht,Result.andThen_ok,Instr.slice,hb,bZ hsz,Sem.run_pure]
 unfold slc at h;split at h
 ·rename_i es
  cases hx with
  | CB=>
   split at h
   case h_2=>simp at h
   rename_i hh eh;split at h
   case h_2=>simp at h
   rename_i l el;have Lp:=kW eh;have Q5:=kW el;have hb:=fW (P:=P) (Tr:=true) (len:=0) (cap:=0) hlo uV hhi vS (za7 _) eh el c.w;refine ⟨_,hrun _ _ _ _ _ hb,?_⟩;have YL:hh=0:=by simpa using Lp
   have vJ:l=0:=by omega
   subst YL;subst vJ;simp only [if_true] at h;injection h with h;subst h
   simp only [if_true,zbl];exact .CB
  | ro _ a cap sz' vs hb0 hcap h1 h2 h3 h4=>
   split at h
   case h_2=>simp at h
   rename_i hh eh;split at h
   case h_2=>simp at h
   rename_i l el;have hb:=fW (P:=P) (Tr:=true) (len:=es.length) (cap:=cap) hlo uV hhi vS hcap eh el c.w;have Lp:=kW eh;have Q5:=kW el;refine ⟨_,hrun _ _ _ _ _ hb,?_⟩;split at h
   ·rename_i heq;injection h with h;subst h;subst heq
    simp only [zbl];by_cases hc:cap=l
    ·rw [if_pos hc];exact sU _ _
    ·rw [if_neg hc];exact sU _ _
   ·rename_i hne;split at h
    case h_2=>simp at h
    rename_i cs hcs;obtain ⟨hl,rfl⟩:=zab.1 hcs;split at h
    case isFalse=>simp at h
    rename_i hlen;injection h with h;subst h
    have adI:sz'=sz:=by rw [<-h2 l hl];exact hlen
    subst adI;have iT:¬ cap=l:=by omega
    have L9:hh - l=((es.drop l).take (hh - l)).length:=by simp;omega
    rw [if_neg iT,zaN];conv=>rhs;rw [L9]
    by_cases hz:sz'=0
    ·subst hz;refine .ro _ _ _ 0 (fun i j=>vs (l+i) j) (fun i j hi hj=>by simp only [zar,zas] at hj ⊢;exact hb0 _ _ _ hj) (by simp;omega) (by intro _ h0;omega) ?_ ?_ ?_
     ·intro i hi;simp only [zar,zas];exact h2 _ _
     ·intro i j hi hj;simp only [zar,zas] at hj;rw [h2] at hj;omega
     ·intro i j hi hj;simp only [zar,zas] at hj ⊢;exact h4 _ _ _ hj
    ·obtain ⟨hsp,hO⟩:=h1 (by intro e;simp [e] at hl) (by omega);rw [jU a _ hsp];refine .ro _ _ _ sz' (fun i j=>vs (l+i) j) (fun i j hi hj=>by simp only [zar,zas] at hj ⊢;exact hb0 _ _ _ hj) (by simp;omega) (fun _ _=>⟨rfl,hO⟩) ?_ ?_ ?_
     ·intro i hi;simp only [zar,zas];exact h2 _ _
     ·intro i j hi hj;simp only [zar,zas] at hj;have:=h3 (l+i) j (by simp at hi;omega) hj;simp only;rw [<-this];congr 2;rw [zaC];omega
     ·intro i j hi hj;simp only [zar,zas] at hj ⊢;exact h4 _ _ _ hj
 ·rename_i id ext off len;split at h
  case h_2=>simp at h
  rename_i sz' es hl;obtain ⟨nl,hid⟩:=bB hl;split at h
  case isFalse=>simp at h
  rename_i hc;obtain ⟨eU,rfl⟩:=hc;split at h
  case h_2=>simp at h
  rename_i hh eh;split at h
  case h_2=>simp at h
  rename_i l el;have Lp:=kW eh;have Q5:=kW el
  cases hx with
  | own _ _ _ _ _ how=>
   obtain ⟨hlt,_,how⟩:=how;obtain ⟨hle,how⟩:=how _ _ _ hid;obtain ⟨X1,how⟩:=how eU;rcases how with ⟨qC,oR,rfl⟩ | ⟨X8,cap,rfl,hcap⟩
   ·subst oR;have ae6:ext=0:=by simpa using eU
    have T3:len=0:=by omega
    subst T3;have hb:=fW (P:=P) (Tr:=true) (len:=0) (cap:=0) hlo uV hhi vS (za7 _) eh el c.w;refine ⟨_,hrun _ _ _ _ _ hb,?_⟩;have YL:hh=0:=by omega
    have vJ:l=0:=by omega
    subst YL;subst vJ;simp only [if_true] at h;split at h
    ·injection h with h;subst h
     simp only [if_true,zbl];refine .own _ _ _ _ _ ⟨hlt,⟨_,_,rfl⟩,fun nl' Be Lq di=>?_⟩;rw [hid] at di;injection di with di
     injection di with q1 q2 q3
     subst q1;subst q2;subst q3;exact ⟨by omega,fun _=>⟨by omega,.inl ⟨qC,rfl,rfl⟩⟩⟩
    ·injection h with h;subst h
     simp only [sF,if_true,zbl];exact .CB
   ·obtain ⟨cells,elem,b1,b2,b3,b4,b5⟩:=hr.back _ _ _ _ hid X8;have abm:len<=cap:=by omega
    have hb:=fW (P:=P) (Tr:=true) (len:=len) (cap:=cap) hlo uV hhi vS abm eh el c.w;refine ⟨_,hrun _ _ _ _ _ hb,?_⟩;split at h
    ·rename_i heq;split at h
     ·have vJ:l=0:=by
       have e0:some 0=some l:=el;injection e0 with e0;exact e0.symm
      injection h with h;subst h;subst heq
      subst vJ;refine .own _ _ _ _ _ ⟨hlt,?_,fun nl' Be es' di=>?_⟩
      ·by_cases iT:cap=0
       ·rw [if_pos iT];exact ⟨_,_,rfl⟩
       ·rw [if_neg iT];exact ⟨_,_,rfl⟩
      ·rw [hid] at di;injection di with di
       injection di with q1 q2 q3
       subst q1;subst q2;subst q3;refine ⟨hle,fun _=>⟨by omega,.inr ⟨X8,cap,?_,by omega⟩⟩⟩;by_cases iT:cap=0
       ·rw [if_pos iT];simp
       ·rw [if_neg iT];simp [add_eq]
     injection h with h;subst h;subst heq
     have hro:sF (cy c.H id) es []= .ro []:=rfl;rw [hro];simp only [zbl];by_cases iT:cap=l
     ·rw [if_pos iT];exact sU _ _
     ·rw [if_neg iT];exact sU _ _
    ·rename_i hne;injection h with h;subst h
     have iT:¬ cap=l:=by omega
     rw [if_neg iT,zaN,add_eq];refine .own _ _ _ _ _ ⟨hlt,⟨_,_,rfl⟩,fun nl' Be es' di=>?_⟩;rw [hid] at di;injection di with di
     obtain ⟨rfl,rfl,rfl⟩:nl=nl'/\sz'=Be/\es=es':=by injection di with a b c;exact ⟨a,b,c⟩
     refine ⟨hle,fun _=>⟨by omega,.inr ⟨X8,cap - l,?_,by omega⟩⟩⟩;rw [zaC]
 ·split at h
  case h_2=>simp at h
  rename_i hh eh;split at h
  case h_2=>simp at h
  rename_i l el;injection h with h;subst h
  cases hx;have Lp:=kW eh;have Q5:=kW el;have hb:=fW (P:=P) (Tr:=true) (len:=0) (cap:=0) hlo uV hhi vS (za7 _) eh el c.w;refine ⟨_,hrun _ _ _ _ _ hb,?_⟩;have YL:hh=0:=by omega
  have vJ:l=0:=by omega
  subst YL;subst vJ;simp;exact .bF
 ·simp at h
end
end Go.Am
end
section
namespace Go.Am
section
variable {P:Program} {c:Ctx}
theorem DQ {cs:List AV} {a:Addr} {n:Nat} (h:V c (.bR cs) (.pointer (some a))) (hn:n<=cs.length):V c (.bR (cs.drop n)) (.pointer (some (a.add n))):=by
 cases h with
 | bR _ _ vs hb0 h1 h3 h4=>
  by_cases hc:cs.drop n=[]
  ·rw [hc];exact .bR [] _ (fun _=>undef) (fun j hj=>by simp at hj) (by simp) (by simp) (by intro j hj;simp at hj)
  ·have hne:cs≠[]:=by rintro rfl;simp at hc
   obtain ⟨hs,hO⟩:=h1 hne;rw [jU a n hs];refine .bR _ _ (fun j=>vs (n+j)) (fun j hj=>by simp only [zas];exact hb0 _ _) (fun _=>⟨rfl,hO⟩) (fun j hj=>?_) (fun j hj=>?_)
   ·simp at hj;have:=h3 (n+j) (by omega);rw [<-this];congr 2;simp;omega
   ·simp only [zas];exact h4 _ _
theorem DR {off:Nat} {x r:AV} {xv:Value} (hx:V c x xv) (h:uZ off x=some r):∃ a,xv= .pointer (some a)/\V c r (.pointer (some (a.add off))):=by
 unfold uZ at h;split at h
 ·rename_i cs
  cases hx with
  | bR _ a vs hb0 h1 h3 h4=>
   split at h
   ·rename_i hle;injection h with h;subst h
    exact ⟨a,rfl,DQ (.bR cs a vs hb0 h1 h3 h4) hle⟩
   ·simp at h
 ·rename_i id ext e o;injection h with h;subst h
  cases hx with
  | aJ _ _ _ _ _ hp=>
   obtain ⟨hlt,a,rfl,hs,hp⟩:=hp;refine ⟨a,rfl,.aJ _ _ _ _ _ ⟨hlt,_,rfl,by rw [jU _ _ hs],fun nl sz es hid=>⟨(hp _ _ _ hid).1,fun he=>?_⟩⟩⟩;rw [(hp _ _ _ hid).2 he,add_eq,Nat.add_assoc]
 ·simp at h
theorem aa2 {s:TypeId} {fs:Array Field} {f:Nat} {fd:Field} {n:Nat} (hs:P.underlying s=some (.struct fs)) (hf:fs[f]?=some fd) (hsz:cW P fd.type=some (n+1))
 {x r:AV} {xv:Value} (hx:V c x xv) (h:uZ fd.offset x=some r):∃ v,(Instr.fieldAt s xv f).run P c.w= .ok v c.w/\V c r v:=by
 obtain ⟨a,rfl,hV⟩:=DR hx h;refine ⟨_,?_,hV⟩;simp only [Instr.fieldAt,Sem.run_bind,aA hs,Result.andThen_ok,hf,Instr.sureAddr,Sem.run_pure,fieldPlace,bZ hsz,Nat.add_eq_zero_iff,Nat.one_ne_zero,and_false,if_false]
theorem WI {t e:TypeId} {len sz:Nat} (ht:P.underlying t=some (.array len e)) (hsz:cW P e=some sz) {x i r:AV} {xv iv:Value} (hx:V c x xv) (hi:V c i iv)
 (h:mm len sz x i=some r):∃ v,(Instr.indexAt t xv iv).run P c.w= .ok v c.w/\V c r v:=by
 unfold mm at h;split at h
 ·rename_i k n
  cases hi;split at h
  ·rename_i hb;obtain ⟨a,rfl,hV⟩:=DR hx h;refine ⟨_,?_,hV⟩;simp [Instr.indexAt,asIntOf,aA ht,Instr.sureAddr,hb.1,hb.2,bZ hsz]
  ·simp at h
 ·simp at h
theorem WJ {t e:TypeId} {sz:Nat} (ht:P.underlying t=some (.slice e)) (hsz:cW P e=some sz) {x i r:AV} {xv iv:Value} (hx:V c x xv) (hi:V c i iv)
 (h:jd c.H sz x i=some r):∃ v,(Instr.indexAt t xv iv).run P c.w= .ok v c.w/\V c r v:=by
 have hrun:∀ (a:Addr) (len cap:Nat) (k:IntKind) (n:Int),0<=n->n < (len:Int)->
  (Instr.indexAt t (.slice (some a) len cap) (.int k n)).run P c.w= .ok (.pointer (some (a.add (n.toNat*sz)))) c.w:=by
  intro a len cap k n h0 h1;simp [Instr.indexAt,asIntOf,aA ht,h0,h1,bZ hsz]
 unfold jd at h;split at h
 ·rename_i es k n
  cases hi
  cases hx with
  | CB=>
   split at h
   case isFalse=>simp at h
   simp at h
  | ro _ a cap sz' vs hb0 hcap h1 h2 h3 h4=>
   split at h
   case isFalse=>simp at h
   rename_i h0;split at h
   case h_2=>simp at h
   rename_i cs hcs;obtain ⟨hn,rfl⟩:=zab.1 hcs;split at h
   case isFalse=>simp at h
   rename_i hlen;injection h with h;subst h
   have hs':sz'=sz:=by rw [<-h2 _ hn];exact hlen
   subst hs';refine ⟨_,hrun a _ _ _ _ h0 (by omega),?_⟩;by_cases hz:sz'=0
   ·refine .bR _ _ (fun _=>undef) (fun j hj=>by omega) (fun hne=>?_) (fun j hj=>?_) (fun j hj=>?_)
    ·exfalso;rw [hz] at hlen;exact hne (List.length_eq_zero_iff.1 hlen)
    ·omega
    ·omega
   ·obtain ⟨hsp,hO⟩:=h1 (by intro e;simp [e] at hn) (by omega);rw [jU a _ hsp];exact .bR _ _ (fun j=>vs n.toNat j) (fun j hj=>hb0 _ _ hn hj) (fun _=>⟨rfl,hO⟩) (fun j hj=>h3 _ _ hn hj) (fun j hj=>h4 _ _ hn hj)
 ·rename_i id ext off len k n
  cases hi;split at h
  case h_2=>simp at h
  rename_i sz' es hl;obtain ⟨nl,hid⟩:=bB hl;split at h
  case isFalse=>simp at h
  rename_i hc;obtain ⟨eU,rfl,h0,h1⟩:=hc;injection h with h;subst h
  cases hx with
  | own _ _ _ _ _ how=>
   obtain ⟨hlt,_,how⟩:=how;obtain ⟨hle,how⟩:=how _ _ _ hid;obtain ⟨X1,how⟩:=how eU;rcases how with ⟨qC,oR,rfl⟩ | ⟨X8,cap,rfl,hcap⟩
   ·subst oR;simp at eU;omega
   ·refine ⟨_,hrun _ _ _ _ _ h0 h1,?_⟩;rw [add_eq];refine .aJ _ _ _ _ _ ⟨hlt,_,rfl,rfl,fun nl' Be es' di=>?_⟩;rw [hid] at di;injection di with di
    injection di with a b d
    subst a;subst b;subst d;exact ⟨hle,fun _=>by rw [zaC,zb7]⟩
 ·rename_i id ext e' o sz' len k n
  cases hi;split at h
  case isFalse=>simp at h
  rename_i hc;obtain ⟨rfl,h0,h1⟩:=hc;injection h with h;subst h
  cases hx with
  | arr _ _ _ _ _ _ _ ha=>
   obtain ⟨hlt,a,⟨cap,rfl,_⟩,hsp,ha⟩:=ha;refine ⟨_,hrun _ _ _ _ _ h0 h1,?_⟩;rw [jU _ _ hsp];refine .aJ _ _ _ _ _ ⟨hlt,_,rfl,rfl,fun nl sz es hid=>⟨(ha _ _ _ hid).1,fun he=>?_⟩⟩;have:=(ha _ _ _ hid).2 he;rw [this,Nat.add_assoc]
 ·simp at h
theorem WL {t:TypeId} (ht:P.underlying t=some .string) {x i r:AV} {xv iv:Value} (hx:V c x xv) (hi:V c i iv)
 (h:oV x i=some r):∃ v,(Instr.index t xv iv).run P c.w= .ok v c.w/\V c r v:=by
 unfold oV at h;split at h
 ·rename_i s k j
  cases hi;cases hx;split at h
  case isFalse=>simp at h
  rename_i h0;split at h
  case h_2=>simp at h
  rename_i b hb;injection h with h;subst h
  refine ⟨_,?_,V.int _ _⟩;have:(⟨s.toArray⟩:ByteArray)[j.toNat]?=some b:=by
   obtain ⟨hlt,rfl⟩:=zab.1 hb;have h2:j.toNat < (⟨s.toArray⟩:ByteArray).size:=by simpa [ByteArray.size] using hlt
   rw [getElem?_pos (⟨s.toArray⟩:ByteArray) j.toNat h2];rfl
  simp [Instr.index,asIntOf,aA ht,h0,this]
 ·simp at h
theorem WK {t e:TypeId} {len n:Nat} {ag:Bool} (ht:P.underlying t=some (.array len e)) (hn:cW P e=some n) (ha:nw P e=some ag) {x i r:AV} {xv iv:Value}
 (hx:V c x xv) (hi:V c i iv) (h:nk len n ag x i=some r):∃ v,(Instr.index t xv iv).run P c.w= .ok v c.w/\V c r v:=by
 unfold nk at h;split at h
 ·rename_i cs k j
  cases hi
  cases hx with
  | agg _ vs hs hv=>
   split at h
   case isFalse=>simp at h
   rename_i hb;obtain ⟨v,hr,hV⟩:=MZ (P:=P) hn ha hs hv h c.w;refine ⟨v,?_,hV⟩;simp [Instr.index,asIntOf,aA ht,hb.1,hb.2,bZ hn,hr]
 ·simp at h
theorem aa1 {s:TypeId} {fs:Array Field} {f:Nat} {fd:Field} {n:Nat} {ag:Bool} (hs:P.underlying s=some (.struct fs)) (hf:fs[f]?=some fd) (hn:cW P fd.type=some n)
 (ha:nw P fd.type=some ag) {cs:List AV} {r:AV} {xv:Value} (hx:V c (.agg cs) xv) (h:Am.part n ag cs fd.offset=some r):
 ∃ v,(Instr.field s xv f).run P c.w= .ok v c.w/\V c r v:=by
 cases hx with
 | agg _ vs hs' hv=>
  obtain ⟨v,hr,hV⟩:=MZ (P:=P) hn ha hs' hv h c.w;refine ⟨v,?_,hV⟩;simp [Instr.field,aA hs,hf,asAgg,hr]
theorem WM {t:TypeId} (ht:P.underlying t=some .string) {x r:AV} {xv:Value} {lo hi:Option AV} {Cv hiv:Option Value}
 (hx:V c x xv) (hlo:∀ y,lo=some y->∃ yv,Cv=some yv/\V c y yv) (uV:lo=none->Cv=none)
 (hhi:∀ y,hi=some y->∃ yv,hiv=some yv/\V c y yv) (vS:hi=none->hiv=none)
 (h:oW x lo hi=some r):∃ v,(Instr.sliceAt t xv Cv hiv none).run P c.w= .ok v c.w/\V c r v:=by
 unfold oW at h;split at h
 ·rename_i s
  cases hx;split at h
  case h_2=>simp at h
  rename_i hh eh;split at h
  case h_2=>simp at h
  rename_i l el;injection h with h;subst h
  have hsz:(⟨s.toArray⟩:ByteArray).size=s.length:=by simp [ByteArray.size]
  have hb:=fW (P:=P) (Tr:=false) (len:=s.length) (cap:=s.length) hlo uV hhi vS (za7 _) eh el c.w;refine ⟨_,?_,V.str _⟩;simp only [Instr.sliceAt,Sem.run_bind,aA ht,Result.andThen_ok,Instr.slice,Option.isSome_none,za9,if_false,hsz,hb,Sem.run_pure];congr 2;apply ByteArray.ext
  simp [ByteArray.data_extract]
 ·simp at h
theorem adu {op:UnOp} {x r:AV} {xv:Value} (hx:V c x xv) (h:un op x=some r):∃ v,(Op.unary op xv).run P c.w= .ok v c.w/\V c r v:=by
 unfold un at h;split at h
 ·cases hx;injection h with h;subst h;exact ⟨_,rfl,V.int _ _⟩
 ·cases hx;injection h with h;subst h;exact ⟨_,rfl,V.int _ _⟩
 ·cases hx;injection h with h;subst h;exact ⟨_,rfl,V.bool _⟩
 ·simp at h
end
end Go.Am
end
section
namespace Go.Am
section
variable {P:Program} {c:Ctx}
def PV (c:Ctx) (cs:List AV) (vs:Array Value):Prop:=vs.size=cs.length/\∀ i (hi:i < cs.length) (hj:i < vs.size),V c cs[i] vs[i]
theorem PV.sub {cs:List AV} {vs:Array Value} (h:PV c cs vs) (o n:Nat):PV c ((cs.drop o).take n) (vs.extract o (o+n)):=by
 refine ⟨by simp [h.1];omega,fun i hi hj=>?_⟩;simp only [zar,zas,Array.getElem_extract];simp at hi;exact h.2 (o+i) (by omega) (by rw [h.1];omega)
theorem n7:∀ {ks:List CK} {x y:List AV} {b:Bool},bI ks x y=some b->x.length=ks.length/\y.length=ks.length
 | [],[],[],_,_=>⟨rfl,rfl⟩
 | k::ks,u::x,v::y,b,h=>by
  simp only [bI] at h;split at h
  ·rename_i a b' _ h2;have:=n7 h2;simp [this]
  ·simp at h
 | [],_::_,_,_,h=>by simp [bI] at h
 | [],[],_::_,_,h=>by simp [bI] at h
 | _::_,[],_,_,h=>by simp [bI] at h
 | _::_,_::_,[],_,h=>by simp [bI] at h
theorem kf:∀ {k1 k2:List CK} {x y:List AV} {b:Bool},bI (k1++k2) x y=some b->
 ∃ b1 b2,bI k1 (x.take k1.length) (y.take k1.length)=some b1/\bI k2 (x.drop k1.length) (y.drop k1.length)=some b2/\b=(b1&&b2)
 | [],k2,x,y,b,h=>⟨true,b,by simp [bI],by simpa using h,by simp⟩
 | k::k1,k2,x,y,b,h=>by
  cases x with
  | nil=>simp [bI] at h
  | cons u x=>
   cases y with
   | nil=>simp [bI] at h
   | cons v y=>
    simp only [zaM,bI] at h;split at h
    ·rename_i a b' h1 h2;injection h with h
     obtain ⟨b1,b2,e1,e2,e3⟩:=kf h2;refine ⟨a&&b1,b2,?_,by simpa using e2,by rw [<-h,e3,Bool.and_assoc]⟩;simp [bI,h1,e1]
    ·simp at h
theorem n8 {k:CK} {x y:List AV} {b:Bool} (h:bI [k] x y=some b):∃ u v,x=[u]/\y=[v]/\dj k u v=some b:=by
 obtain ⟨hx,hy⟩:=n7 h;obtain ⟨u,rfl⟩:=List.length_eq_one_iff.1 hx;obtain ⟨v,rfl⟩:=List.length_eq_one_iff.1 hy;refine ⟨u,v,rfl,rfl,?_⟩;simp only [bI] at h;split at h
 ·rename_i a b' h1 h2;simp at h2;subst h2;rw [h1];simpa using h
 ·simp at h
theorem sW {cs:List AV} {vs:Array Value} (h:PV c cs vs) {o:Nat} {u:AV} (hu:(cs.drop o).take 1=[u]):∃ v,vs[o]?=some v/\V c u v:=by
 have ho:o < cs.length:=by
  have:=congrArg List.length hu;simp at this;omega
 have YR:cs[o]=u:=by
  have:((cs.drop o).take 1)[0]?=some u:=by rw [hu];rfl
  simp [ho] at this;exact this
 have hv:o < vs.size:=by rw [h.1];exact ho
 exact ⟨vs[o],zam hv,YR▸h.2 o ho hv⟩
theorem uz {t:TypeId} {fs:Array Field} (h:P.underlying t=some (.struct fs)):P.fieldsOf t=fs:=by
 simp [Program.fieldsOf,h]
theorem gq {t:TypeId} {d:TypeDesc} (hu:P.underlying t=some d) (hd:(match d with | .struct _ | .array _ _=>true | _=>false)=false) {vs:Array Value} {o:Nat} {v:Value}
 (h:vs[o]?=some v) (w:World):(Go.part t vs o).run P w= .ok v w:=by
 have:nw P t=some false:=by
  unfold nw;rw [hu];cases d<;>simp at hd ⊢
 simp [Go.part,jW this,h]
theorem lM {t:TypeId} {d:TypeDesc} {n:Nat} (hu:P.underlying t=some d) (hd:(match d with | .struct _ | .array _ _=>true | _=>false)=true) (hn:cW P t=some n)
 {vs:Array Value} {o:Nat} (w:World):(Go.part t vs o).run P w= .ok (.agg (vs.extract o (o+n))) w:=by
 have:nw P t=some true:=by
  unfold nw;rw [hu];cases d<;>simp at hd ⊢
 simp [Go.part,jW this,bZ hn]
theorem Aq (w:World) (d:Nat) (e:TypeId) (n:Nat) (xs ys:Array Value) (f:Nat->Bool):∀ (l:List Nat),
 (∀ i∈l,∃ px py,(Go.part e xs (i*n)).run P w= .ok px w/\(Go.part e ys (i*n)).run P w= .ok py w/\(Op.equalIn d e px py).run P w= .ok (f i) w)->
 (forIn l ((none,()):Option Bool×Unit) (fun i _=>do
  let a <- Go.part e xs (i*n)
  let b <- Go.part e ys (i*n)
  let r <- Op.equalIn d e a b
  if (!r)=true then pure (ForInStep.done (some false,())) else pure (ForInStep.yield (none,()))):Sem (Option Bool×Unit)).run P w=
  .ok (if l.all f then (none,()) else (some false,())) w
 | [],_=>by simp
 | i::l,h=>by
  obtain ⟨px,py,h1,h2,h3⟩:=h i (by simp);have ih:=Aq w d e n xs ys f l (fun j hj=>h j (by simp [hj]));rw [List.forIn_cons];simp only [Sem.run_bind,h1,h2,h3,Result.andThen_ok,Sem.run_ite,Sem.run_pure]
  cases hf:f i
  ·simp [hf]
  ·simp only [zb1,za9,if_false,Result.andThen_ok,zbI,hf,zaS];exact ih
end
end Go.Am
end
section
namespace Go.Am
section
variable {P:Program} {c:Ctx}
def EqAt (P:Program) (c:Ctx) (d:Nat) (t:TypeId) (ks:List CK):Prop:=
 ∀ D,d<=D->∀ (cs ds:List AV) (xs ys:Array Value) (o:Nat) (b:Bool) (w:World),PV c cs xs->PV c ds ys->
  bI ks ((cs.drop o).take ks.length) ((ds.drop o).take ks.length)=some b->
  ∃ px py,(Go.part t xs o).run P w= .ok px w/\(Go.part t ys o).run P w= .ok py w/\(Op.equalIn D t px py).run P w= .ok b w
theorem G6 (d:Nat):∀ (fs:List Field) (k off:Nat) (ks:List CK),k<=d->
 iA P k off fs=some ks->(∀ k' t ks',k'<=d->fy P k' t=some ks'->EqAt P c k' t ks')->
 ∀ D,d<=D->∀ (cs ds:List AV) (xs ys:Array Value) (b:Bool) (w:World),PV c cs xs->PV c ds ys->
 bI ks (cs.drop off) (ds.drop off)=some b->(Op.eqFields D xs ys fs).run P w= .ok b w:=by
 intro fs;induction fs with
 | nil=>
  intro k off ks hk h _ D hD cs ds xs ys b w hx hy he;have:ks=[]:=by cases k<;>simp [iA] at h<;>exact h
  subst this;have hb:b=true:=by
   cases h1:cs.drop off<;>cases h2:ds.drop off<;>rw [h1,h2] at he<;>simp [bI] at he;exact he
  subst hb;simp [Op.eqFields]
 | cons f fs ihf=>
  intro k off ks hk h hall D hD cs ds xs ys b w hx hy he
  cases k with
  | zero=>simp [iA] at h
  | succ k=>
   simp only [iA] at h;split at h
   ·simp at h
   ·rename_i hname;split at h
    case h_2=>simp at h
    rename_i k1 sz KX hsz;split at h
    case isFalse=>simp at h
    rename_i hc;obtain ⟨hlen,hoff⟩:=hc;split at h
    case h_2=>simp at h
    rename_i l hl;injection h with h
    subst h;obtain ⟨b1,b2,e1,e2,rfl⟩:=kf he;have hne:f.name≠ "_" :=by simpa using hname
    obtain ⟨px,py,r1,r2,r3⟩:=hall k f.type k1 (by omega) KX D (by omega) cs ds xs ys off b1 w hx hy e1;simp only [Op.eqFields,Sem.run_bind,Sem.run_ite];rw [if_pos hne,hoff,r1,Result.andThen_ok,r2,Result.andThen_ok,r3,Result.andThen_ok]
    cases b1
    ·simp
    ·simp only [zb1,za9,if_false,zaS];refine ihf k (off+sz) l (by omega) hl hall D hD cs ds xs ys b2 w hx hy ?_;rw [<-hlen];simpa [zbP] using e2
theorem uF {k0:List CK}:∀ {n:Nat} {x y:List AV} {b:Bool},bI (List.replicate n k0).flatten x y=some b->
 ∃ f:Nat->Bool,(∀ i,i < n->bI k0 ((x.drop (i*k0.length)).take k0.length) ((y.drop (i*k0.length)).take k0.length)=some (f i))/\b=(List.range n).all f
 | 0,x,y,b,h=>by
  refine ⟨fun _=>true,by simp,?_⟩
  cases x<;>cases y<;>simp [bI] at h ⊢;exact h
 | n+1,x,y,b,h=>by
  rw [zbG,zb] at h;obtain ⟨b1,b2,e1,e2,rfl⟩:=kf h;obtain ⟨f,hf,rfl⟩:=uF e2;refine ⟨fun i=>if i=0 then b1 else f (i - 1),fun i hi=>?_,?_⟩
  ·cases i with
   | zero=>simpa using e1
   | succ i=>
    have:=hf i (by omega);simp only [zbP] at this;simp only [Nat.succ_ne_zero,if_false,Nat.add_sub_cancel];rw [zaC,zb2,Nat.add_comm (i*k0.length)];exact this
  ·rw [List.range_succ_eq_map];simp [List.all_map,Function.comp_def]
theorem Xo:∀ (d:Nat) (t:TypeId) (ks:List CK),fy P d t=some ks->EqAt P c d t ks:=by
 intro d;induction d using Nat.strongRecOn with
 | _ d ih=>
 intro t ks h
 cases d with
 | zero=>simp [fy] at h
 | succ d=>
  intro D hD cs ds xs ys o b w hx hy he;obtain ⟨D,rfl⟩:∃ D',D=D'+1:=⟨D - 1,by omega⟩;simp only [fy] at h;split at h
  ·rename_i hu;injection h with h;subst h
   obtain ⟨u,v,h1,h2,h3⟩:=n8 he;obtain ⟨px,e1,v1⟩:=sW hx h1;obtain ⟨py,e2,v2⟩:=sW hy h2;refine ⟨px,py,gq hu rfl e1 w,gq hu rfl e2 w,?_⟩
   cases u<;>cases v<;>simp [dj] at h3
   cases v1;cases v2;rw [run_equalIn_bool' w D t _ _ hu,h3]
  ·rename_i k hu;injection h with h;subst h
   obtain ⟨u,v,h1,h2,h3⟩:=n8 he;obtain ⟨px,e1,v1⟩:=sW hx h1;obtain ⟨py,e2,v2⟩:=sW hy h2;refine ⟨px,py,gq hu rfl e1 w,gq hu rfl e2 w,?_⟩
   cases u<;>cases v<;>simp [dj] at h3;obtain ⟨⟨rfl,rfl⟩,h3⟩:=h3
   cases v1;cases v2;rw [run_equalIn_int w D t _ _ _ _ hu,h3]
  ·rename_i hu;injection h with h;subst h
   obtain ⟨u,v,h1,h2,h3⟩:=n8 he;obtain ⟨px,e1,v1⟩:=sW hx h1;obtain ⟨py,e2,v2⟩:=sW hy h2;refine ⟨px,py,gq hu rfl e1 w,gq hu rfl e2 w,?_⟩
   cases u<;>cases v<;>simp [dj] at h3
   cases v1;cases v2;rw [run_equalIn_string w D t _ _ hu];rw [ByteArray.toList_eq,ByteArray.toList_eq,<-h3]
  ·rename_i fs hu;split at h
   ·simp at h
   ·rename_i hst;split at h
    case h_2=>simp at h
    rename_i ks' hks;split at h
    case isFalse=>simp at h
    rename_i hsz;injection h with h;subst h
    refine ⟨_,_,lM hu rfl hsz w,lM hu rfl hsz w,?_⟩;have aeP:P.stoodInHeld t=false:=by simpa using hst
    rw [run_equalIn_struct w D t _ _ (by rw [uz hu];exact hu) aeP,uz hu];exact G6 d fs.toList d 0 ks' (za7 _) hks (fun k' t ks' hk' hf=>ih k' (by omega) t ks' hf) D (by omega)
     _ _ _ _ b w (hx.sub o _) (hy.sub o _) (by simpa using he)
  ·rename_i n e hu;split at h
   case h_2=>simp at h
   rename_i k0 sz Fp vU;split at h
   case isFalse=>simp at h
   rename_i hc;obtain ⟨hlen,hsz⟩:=hc;injection h with h;subst h
   have hl:(List.replicate n k0).flatten.length=n*sz:=by simp [hlen]
   rw [hl] at he;refine ⟨_,_,lM hu rfl hsz w,lM hu rfl hsz w,?_⟩;obtain ⟨f,hf,rfl⟩:=uF he;have m7:=Aq (P:=P) w D e sz (xs.extract o (o+n*sz)) (ys.extract o (o+n*sz)) f (List.range n) (fun i hi=>by
    have hin:i < n:=zac.1 hi;have hf':=hf i hin;have:=ih d (by omega) e k0 Fp D (by omega) _ _ _ _ (i*sz) (f i) w (hx.sub o (n*sz)) (hy.sub o (n*sz)) (by rw [hlen] at hf' ⊢;exact hf');exact this)
   simp only [Op.equalIn,Sem.run_bind,aA hu,Result.andThen_ok,bZ vU];rw [Std.Legacy.Range.forIn_eq_forIn_range'];simp only [Std.Legacy.Range.size,Nat.sub_zero,Nat.add_sub_cancel,Nat.div_one,zbX] at m7 ⊢;rw [m7]
   cases (List.range' 0 n).all f<;>simp
  ·simp at h
end
end Go.Am
end
