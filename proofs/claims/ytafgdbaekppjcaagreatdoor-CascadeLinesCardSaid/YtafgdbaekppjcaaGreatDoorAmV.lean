/- Values handed to a callee that works apart, and back, joined. Condition: the state's relation. -/
import Derived.Test.YtafgdbaekppjcaaGreatDoorAmU
set_option linter.unusedSectionVars false
set_option linter.unusedVariables false
set_option linter.unusedSimpArgs false
namespace Go.Am
section
variable {c d:Ctx}
structure Lent (c d:Ctx):Prop where
 hw:d.w=c.w
 hO:∀ b,d.O b→c.O b
 hown:∀ b,Owned c.H c.ι b→¬ d.O b
theorem Lent.free (l:Lent c d) {x:AV} {v:Value} (hb:x.bel 0=true) (hx:V c x v):V d x v:=
 V.monoB 0 (fun b hb _=>⟨by rw [l.hw],fun hd=>hb (l.hO b hd)⟩) (fun _ _ _ _ _ h=>by omega) (fun _ _ _ _ _ h=>by omega) (fun _ _ _ _ _ _ h=>by omega) (fun _ _ h=>by omega) hx hb
theorem mapO_V {f:AV→Option AV} (hf:∀ x y v,V c x v→f x=some y→V d y v∧y.bel 0=true):∀ (xs ys:List AV) (vs:Nat→Value),(∀ i (hi:i < xs.length),V c xs[i] (vs i))→mapO f xs=some ys→
 ys.length=xs.length∧∀ i (hi:i < ys.length),V d ys[i] (vs i)∧ys[i].bel 0=true
 | [],ys,vs,_,h=>by simp [mapO] at h;subst h;simp
 | x::xs,ys,vs,hv,h=>by
  simp only [mapO] at h
  split at h
  case h_2=>simp at h
  rename_i y r h1 h2
  injection h with h;subst h
  have e1:=hf _ _ _ (hv 0 (by simp)) h1
  obtain ⟨e2,e3⟩:=mapO_V hf xs r (fun i=>vs (i+1)) (fun i hi=>hv (i+1) (Nat.succ_lt_succ hi)) h2
  refine ⟨by simp [e2],fun i hi=>?_⟩
  cases i with
  | zero=>exact e1
  | succ i=>exact e3 i (Nat.lt_of_succ_lt_succ hi)
theorem mapOO_V {f:AV→Option AV} (hf:∀ x y v,V c x v→f x=some y→V d y v∧y.bel 0=true):∀ (xs ys:List (List AV)) (vs:Nat→Nat→Value),(∀ i j (hi:i < xs.length) (hj:j < xs[i].length),V c xs[i][j] (vs i j))→mapOO f xs=some ys→
 ys.length=xs.length∧∀ i (hi:i < ys.length) (hi':i < xs.length),ys[i].length=xs[i].length∧∀ j (hj:j < ys[i].length),V d ys[i][j] (vs i j)∧ys[i][j].bel 0=true
 | [],ys,vs,_,h=>by simp [mapOO] at h;subst h;simp
 | x::xs,ys,vs,hv,h=>by
  simp only [mapOO] at h
  split at h
  case h_2=>simp at h
  rename_i y r h1 h2
  injection h with h;subst h
  obtain ⟨e1,e1'⟩:=mapO_V hf x y (vs 0) (fun j hj=>hv 0 j (by simp) hj) h1
  obtain ⟨e2,e3⟩:=mapOO_V hf xs r (fun i=>vs (i+1)) (fun i j hi hj=>hv (i+1) j (Nat.succ_lt_succ hi) hj) h2
  refine ⟨by simp [e2],fun i hi hi'=>?_⟩
  cases i with
  | zero=>exact ⟨e1,e1'⟩
  | succ i=>exact e3 i (Nat.lt_of_succ_lt_succ hi) (Nat.lt_of_succ_lt_succ hi')
theorem mapO_id {f:AV→Option AV} (hf:∀ x,x.bel 0=true→f x=some x):∀ (xs:List AV),AV.bels 0 xs=true→mapO f xs=some xs
 | [],_=>rfl
 | x::xs,h=>by
  simp only [AV.bels,Bool.and_eq_true] at h
  simp only [mapO,hf x h.1,mapO_id hf xs h.2]
theorem mapOO_id {f:AV→Option AV} (hf:∀ x,x.bel 0=true→f x=some x):∀ (xs:List (List AV)),AV.belss 0 xs=true→mapOO f xs=some xs
 | [],_=>rfl
 | x::xs,h=>by
  simp only [AV.belss,Bool.and_eq_true] at h
  simp only [mapOO,mapO_id hf x h.1,mapOO_id hf xs h.2]
theorem pk_id (n:Nat) (H:List Obj) (x:AV) (h:x.bel 0=true):pk n H x=some x:=by
 cases n<;>simp [pk,AV.refFree,h]
theorem pkc_V (hr:HR c) (l:Lent c d) {p:AV→Option AV} (hp:∀ x y v,V c x v→p x=some y→V d y v∧y.bel 0=true) (x y:AV) (v:Value) (hx:V c x v) (h:pkc p c.H x=some y):V d y v∧y.bel 0=true:=by
 unfold pkc at h
 split at h
 ·rename_i id ext e o
  split at h
  case h_2=>simp at h
  rename_i sz es hl
  obtain ⟨nl,hid⟩:=getLive_some hl
  split at h
  case isFalse=>simp at h
  rename_i hext
  split at h
  case h_2=>simp at h
  rename_i cs hcs
  obtain ⟨he,rfl⟩:=List.getElem?_eq_some_iff.1 hcs
  split at h
  case h_2=>simp at h
  rename_i r hr'
  injection h with h;subst h
  cases hx with
  | pown _ _ _ _ _ ha=>
   obtain ⟨hlt',a,rfl,hsp,ha⟩:=ha
   have:=(ha _ _ _ hid).2 hext
   subst this
   have hbk:¬(nl= .nil∧es=[]):=by rintro ⟨_,rfl⟩;simp at he
   obtain ⟨vs,_,v3,v4⟩:=elem_cells hr hid he
   obtain ⟨e1,e2⟩:=mapO_V (d:=d) hp _ r (fun j=>vs (o+j)) (fun j hj=>by
    simp only [List.getElem_drop] at hj ⊢
    exact v4 (o+j) (by simp at hj;omega)) hr'
   refine ⟨.pro _ _ (fun j=>vs (o+j)) (fun j hj=>(e2 j hj).2) (fun _=>⟨rfl,l.hown _ ⟨id,nl,sz,es,hid,hbk,rfl⟩⟩) (fun j hj=>?_) (fun j hj=>(e2 j hj).1),by simp only [AV.bel]⟩
   have:=v3 (o+j) (by simp at e1;omega)
   rw [l.hw,←this];congr 2;simp only;omega
 ·exact hp _ _ _ hx h
theorem pk_V (hr:HR c) (l:Lent c d):∀ (n:Nat) (x y:AV) (v:Value),V c x v→pk n c.H x=some y→V d y v∧y.bel 0=true:=by
 intro n
 induction n with
 | zero=>
  intro x y v hx h
  simp only [pk] at h
  split at h
  ·rename_i hf;injection h with h;subst h;exact ⟨l.free hf hx,hf⟩
  ·simp at h
 | succ n ih=>
  intro x y v hx h
  simp only [pk] at h
  split at h
  ·rename_i hf;injection h with h;subst h;exact ⟨l.free hf hx,hf⟩
  rename_i hnf
  clear hnf
  split at h
  ·rename_i id ext off len
   split at h
   case h_2=>simp at h
   rename_i sz es hl
   obtain ⟨nl,hid⟩:=getLive_some hl
   split at h
   case isFalse=>simp at h
   rename_i hext
   split at h
   case h_2=>simp at h
   rename_i r hr'
   injection h with h
   have hnl:nlAt c.H id=nl:=by simp [nlAt,hid]
   rw [hnl] at h
   cases hx with
   | own _ _ _ _ _ how=>
    obtain ⟨_,_,how⟩:=how
    obtain ⟨hle,how⟩:=how _ _ _ hid
    obtain ⟨hol,how⟩:=how hext
    rcases how with ⟨q1,q2,rfl⟩ | ⟨hbk,cap,rfl,hcap⟩
    ·subst q2
     simp only [List.drop_nil,List.take_nil,mapOO,Option.some.injEq] at hr'
     subst hr'
     simp only [roOf] at h
     subst h
     exact ⟨.ro0,by simp [AV.bel,AV.belss]⟩
    ·obtain ⟨cells,elem,g1,g2,g3,g4,g5⟩:=hr.back id nl sz es hid hbk
     have hro:roOf nl es r= .ro r:=rfl
     rw [hro] at h
     subst h
     have hlen:((es.drop off).take len).length=len:=by simp;omega
     obtain ⟨e1,e2⟩:=mapOO_V (d:=d) ih _ r (fun i j=>(cells[(off+i)*sz+j]?).getD undef) (fun i j hi hj=>by
      simp only [List.getElem_take,List.getElem_drop] at hj ⊢
      obtain ⟨u,hu,hv⟩:=(g5 (off+i) (by omega)).2 j hj
      rw [hu];exact hv) hr'
     have hrl:r.length=len:=by omega
     refine ⟨?_,by simp only [AV.bel]⟩
     conv=>rhs;rw [←hrl]
     have hsz:∀ i (hi:i < r.length),r[i].length=sz:=by
      intro i hi
      rw [(e2 i hi (by omega)).1]
      simp only [List.getElem_take,List.getElem_drop];exact (g5 _ _).1
     refine .ro _ _ cap sz (fun i j=>(cells[(off+i)*sz+j]?).getD undef) (fun i j hi hj=>((e2 i hi (by omega)).2 j hj).2) (by omega) (fun _ _=>⟨rfl,l.hown _ ⟨id,nl,sz,es,hid,hbk,rfl⟩⟩) hsz (fun i j hi hj=>?_) (fun i j hi hj=>((e2 i hi (by omega)).2 j hj).1)
     have hj':j < es[off+i].length:=by rw [(g5 (off+i) (by omega)).1];rw [hsz i hi] at hj;exact hj
     obtain ⟨u,hu,_⟩:=(g5 (off+i) (by omega)).2 j hj'
     have e3:off*sz+i*sz=(off+i)*sz:=by rw [Nat.add_mul]
     simp only [l.hw,World.cell?,g1,e3,hu]
     simp
  ·rename_i id ext e o sz len
   split at h
   case h_2=>simp at h
   rename_i la hla
   split at h
   case h_2=>simp at h
   rename_i r hr'
   injection h with h;subst h
   unfold arrElems at hla
   split at hla
   case h_2=>simp at hla
   rename_i SZ es hl'
   obtain ⟨nl,hid⟩:=getLive_some hl'
   split at hla
   case isFalse=>simp at hla
   rename_i hext
   split at hla
   case h_2=>simp at hla
   rename_i cs hcs
   obtain ⟨he,rfl⟩:=List.getElem?_eq_some_iff.1 hcs
   split at hla
   case isFalse=>simp at hla
   rename_i hle
   injection hla with hla
   have hcl:=chunks_length sz len (es[e].drop o)
   cases hx with
   | arr _ _ _ _ _ _ _ ha=>
    obtain ⟨hlt',a,⟨cap,rfl,hcap⟩,hsp,ha⟩:=ha
    have:=(ha _ _ _ hid).2 hext
    subst this
    have hbk:¬(nl= .nil∧es=[]):=by rintro ⟨_,rfl⟩;simp at he
    obtain ⟨vs,_,v3,v4⟩:=elem_cells hr hid he
    have hmul:∀ i,i < len→i*sz+sz≤len*sz:=by
     intro i hi
     have:=Nat.mul_le_mul_right sz (show i+1≤len by omega)
     rw [Nat.add_mul,Nat.one_mul] at this;exact this
    have hsz:∀ i (hi:i < la.length),la[i].length=sz:=by
     intro i hi
     subst hla
     rw [chunks_get]
     have:=hmul i (by rw [hcl] at hi;exact hi)
     simp;omega
    have hll:la.length=len:=by rw [←hla];exact hcl
    have hge:∀ i j (hi:i < la.length) (hj:j < la[i].length),∃ h2:o+(i*sz+j) < es[e].length,la[i][j]=es[e][o+(i*sz+j)]:=by
     intro i j hi hj
     have hj':j < sz:=by rw [hsz i hi] at hj;exact hj
     have:=hmul i (by omega)
     refine ⟨by omega,?_⟩
     subst hla
     simp only [chunks_get,List.getElem_take,List.getElem_drop]
    obtain ⟨e1,e2⟩:=mapOO_V (d:=d) ih _ r (fun i j=>vs (o+(i*sz+j))) (fun i j hi hj=>by
     obtain ⟨h2,h3⟩:=hge i j hi hj
     rw [h3];exact v4 _ h2) hr'
    have hrl:r.length=len:=by omega
    refine ⟨?_,by simp only [AV.bel]⟩
    conv=>rhs;rw [←hrl]
    refine .ro _ _ cap sz (fun i j=>vs (o+(i*sz+j))) (fun i j hi hj=>((e2 i hi (by omega)).2 j hj).2) (by omega) (fun _ _=>⟨rfl,l.hown _ ⟨id,nl,SZ,es,hid,hbk,rfl⟩⟩) (fun i hi=>by rw [(e2 i hi (by omega)).1];exact hsz i (by omega))
     (fun i j hi hj=>?_) (fun i j hi hj=>((e2 i hi (by omega)).2 j hj).1)
    have hj':j < la[i].length:=by rw [←(e2 i hi (by omega)).1];exact hj
    obtain ⟨h2,_⟩:=hge i j (by omega) hj'
    have:=v3 (o+(i*sz+j)) h2
    rw [l.hw,←this];congr 2;simp only;omega
  ·rename_i cs
   split at h
   case h_2=>simp at h
   rename_i r hr'
   injection h with h;subst h
   cases hx with
   | agg _ vs hs hv=>
    obtain ⟨e1,e2⟩:=mapO_V (d:=d) ih cs r (fun i=>vs[i]?.getD undef) (fun i hi=>by
     have hi':i < vs.size:=by omega
     simp only [Array.getElem?_eq_getElem hi',Option.getD_some];exact hv i hi hi') hr'
    refine ⟨.agg _ _ (by omega) fun i hi hj=>?_,by simp only [AV.bel];exact bels_of fun i hi=>(e2 i hi).2⟩
    have:=(e2 i hi).1
    simpa only [Array.getElem?_eq_getElem hj,Option.getD_some] using this
  ·rename_i cs
   split at h
   case h_2=>simp at h
   rename_i r hr'
   injection h with h;subst h
   cases hx with
   | tup _ vs hs hv=>
    obtain ⟨e1,e2⟩:=mapO_V (d:=d) ih cs r (fun i=>vs[i]?.getD undef) (fun i hi=>by
     have hi':i < vs.size:=by omega
     simp only [Array.getElem?_eq_getElem hi',Option.getD_some];exact hv i hi hi') hr'
    refine ⟨.tup _ _ (by omega) fun i hi hj=>?_,by simp only [AV.bel];exact bels_of fun i hi=>(e2 i hi).2⟩
    have:=(e2 i hi).1
    simpa only [Array.getElem?_eq_getElem hj,Option.getD_some] using this
  ·rename_i f cap
   split at h
   case h_2=>simp at h
   rename_i r hr'
   injection h with h;subst h
   cases hx with
   | fn _ _ vs hs hv=>
    obtain ⟨e1,e2⟩:=mapO_V (d:=d) (pkc_V hr l ih) cap r (fun i=>vs[i]?.getD undef) (fun i hi=>by
     have hi':i < vs.size:=by omega
     simp only [Array.getElem?_eq_getElem hi',Option.getD_some];exact hv i hi hi') hr'
    refine ⟨.fn _ _ _ (by omega) fun i hi hj=>?_,by simp only [AV.bel];exact bels_of fun i hi=>(e2 i hi).2⟩
    have:=(e2 i hi).1
    simpa only [Array.getElem?_eq_getElem hj,Option.getD_some] using this
  ·simp at h
theorem snaps_V (hr:HR c) (l:Lent c d) (xs ys:List AV) (vs:List Value) (hl:vs.length=xs.length) (hv:∀ i (hi:i < xs.length) (hj:i < vs.length),V c xs[i] vs[i]) (h:snaps c.H xs=some ys):
 ys.length=xs.length∧(∀ i (hi:i < ys.length) (hj:i < vs.length),V d ys[i] vs[i])∧AV.bels 0 ys=true:=by
 obtain ⟨e1,e2⟩:=mapO_V (d:=d) (pk_V hr l 6) xs ys (fun i=>vs[i]?.getD undef) (fun i hi=>by
  have hi':i < vs.length:=by omega
  simp only [List.getElem?_eq_getElem hi',Option.getD_some];exact hv i hi hi') h
 refine ⟨e1,fun i hi hj=>?_,bels_of fun i hi=>(e2 i hi).2⟩
 have:=(e2 i hi).1
 simpa only [List.getElem?_eq_getElem hj,Option.getD_some] using this
theorem snaps_id (H:List Obj) (xs ys:List AV) (hb:AV.bels 0 xs=true) (h:snaps H xs=some ys):ys=xs:=by
 unfold snaps at h
 rw [mapO_id (fun x hx=>pk_id 6 H x hx) xs hb] at h
 injection h with h;exact h.symm
theorem pack_V (hr:HR c) (l:Lent c d) {x y:AV} {v:Value} (hx:V c x v) (h:pack c.H x=some y):V d y v∧y.bel 0=true:=pk_V hr l 6 x y v hx h
theorem flat_V {x:AV} {v:Value} (h:V c x v):x.flat=true→V d x v:=by
 have get:∀ (l:List AV),AV.flats l=true→∀ i (hi:i < l.length),l[i].flat=true:=by
  intro l
  induction l with
  | nil=>intro _ i hi;simp at hi
  | cons x l ih=>
   intro h i hi
   simp only [AV.flats,Bool.and_eq_true] at h
   cases i with
   | zero=>exact h.1
   | succ i=>exact ih h.2 i (Nat.lt_of_succ_lt_succ hi)
 induction h with
 | any v=>intro _;exact .any v
 | bool b=>intro _;exact .bool b
 | int k n=>intro _;exact .int k n
 | str s=>intro _;exact .str s
 | nilp=>intro _;exact .nilp
 | nils=>intro _;exact .nils
 | nilf=>intro _;exact .nilf
 | nilm=>intro _;exact .nilm
 | nili=>intro _;exact .nili
 | agg cs vs hs _ ih=>intro hb;simp only [AV.flat] at hb;exact .agg cs vs hs fun i hi hj=>ih i hi hj (get cs hb i hi)
 | tup cs vs hs _ ih=>intro hb;simp only [AV.flat] at hb;exact .tup cs vs hs fun i hi hj=>ih i hi hj (get cs hb i hi)
 | _=>intro hb;simp [AV.flat] at hb
end
end Go.Am
