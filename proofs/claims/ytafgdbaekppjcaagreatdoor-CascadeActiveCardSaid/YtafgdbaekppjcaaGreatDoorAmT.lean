/- References below a bound; ghost steps. Condition: the state's relation. -/
import Derived.Test.YtafgdbaekppjcaaGreatDoorAmMa
set_option linter.unusedSectionVars false
set_option linter.unusedVariables false
set_option linter.unusedSimpArgs false
namespace Go.Am
mutual
theorem fu {m n:Nat} (h:m<=n):∀ (x:AV),x.bp m=true->x.bp n=true
 | .own ..,hx=>by simp only [AV.bp,decide_eq_true_eq] at hx ⊢;omega
 | .aA ..,hx=>by simp only [AV.bp,decide_eq_true_eq] at hx ⊢;omega
 | .arr ..,hx=>by simp only [AV.bp,decide_eq_true_eq] at hx ⊢;omega
 | .agg cs,hx=>by simp only [AV.bp] at hx ⊢;exact gu h cs hx
 | .bl cs,hx=>by simp only [AV.bp] at hx ⊢;exact gu h cs hx
 | .bZ cs,_=>by simp [AV.bp]
 | .fn _ cs,hx=>by simp only [AV.bp] at hx ⊢;exact gu h cs hx
 | .b8 _ cs,hx=>by simp only [AV.bp] at hx ⊢;exact gu h cs hx
 | .ro es,_=>by simp [AV.bp]
 | .any,_=>by simp [AV.bp]
 | .bool _,_=>by simp [AV.bp]
 | .int _ _,_=>by simp [AV.bp]
 | .str _,_=>by simp [AV.bp]
 | .g7,_=>by simp [AV.bp]
 | .bD,_=>by simp [AV.bp]
 | .kL,_=>by simp [AV.bp]
 | .pJ,_=>by simp [AV.bp]
 | .fI _,hx=>by simp only [AV.bp,decide_eq_true_eq] at hx ⊢;omega
 | .mp _,hx=>by simp only [AV.bp,decide_eq_true_eq] at hx ⊢;omega
 | .qy _,hx=>by simp only [AV.bp,decide_eq_true_eq] at hx ⊢;omega
 | .nr,_=>by simp [AV.bp]
theorem gu {m n:Nat} (h:m<=n):∀ (xs:List AV),AV.aT m xs=true->AV.aT n xs=true
 | [],_=>by simp [AV.aT]
 | x::xs,hx=>by
  simp only [AV.aT,za0] at hx ⊢;exact ⟨fu h x hx.1,gu h xs hx.2⟩
theorem FE {m n:Nat} (h:m<=n):∀ (xs:List (List AV)),AV.bN m xs=true->AV.bN n xs=true
 | [],_=>by simp [AV.bN]
 | x::xs,hx=>by
  simp only [AV.bN,za0] at hx ⊢;exact ⟨gu h x hx.1,FE h xs hx.2⟩
end
theorem jj {n:Nat}:∀ {xs:List AV},(∀ i (hi:i < xs.length),xs[i].bp n=true)->AV.aT n xs=true
 | [],_=>by simp [AV.aT]
 | x::xs,h=>by
  simp only [AV.aT,za0];exact ⟨h 0 (by simp),jj fun i hi=>h (i+1) (Nat.succ_lt_succ hi)⟩
theorem V.monoB {c d:Ctx} (n:Nat) (hw:∀ b,¬ c.O b->(c.w.heap[b]?).isSome->d.w.heap[b]?=c.w.heap[b]?/\¬ d.O b)
 (hO:∀ id ext off len v,id < n->OW c id ext off len v->OW d id ext off len v)
 (hP:∀ id ext e o v,id < n->PO c id ext e o v->PO d id ext e o v)
 (hA:∀ id ext e o len v,id < n->AO c id ext e o len v->AO d id ext e o len v)
 (hS:∀ id b,id < n->SV c id b->SV d id b)
 {x:AV} {v:Value} (h:V c x v):x.bp n=true->V d x v:=by
 have hcell:∀ (b o:Nat) (u:Value),¬ c.O b->c.w.cell? ⟨b,o,none⟩=some u->d.w.cell? ⟨b,o,none⟩=some u/\¬ d.O b:=by
  intro b o u hb hc;have hs:(c.w.heap[b]?).isSome:=by
   unfold World.cell? at hc
   cases h:c.w.heap[b]? with
   | none=>simp [h] at hc
   | some _=>rfl
  obtain ⟨e1,e2⟩:=hw b hb hs;exact ⟨by rw [<-hc];simp [World.cell?,e1],e2⟩
 induction h with
 | any v=>intro _;exact .any v
 | bool b=>intro _;exact .bool b
 | int k n=>intro _;exact .int k n
 | str s=>intro _;exact .str s
 | g7=>intro _;exact .g7
 | bD=>intro _;exact .bD
 | kL=>intro _;exact .kL
 | pJ=>intro _;exact .pJ
 | fI l b h=>intro hb;exact .fI l b (hS _ _ (by simpa [AV.bp] using hb) h)
 | mp l b h=>intro hb;exact .mp l b (hS _ _ (by simpa [AV.bp] using hb) h)
 | qy l b h=>intro hb;exact .qy l b (hS _ _ (by simpa [AV.bp] using hb) h)
 | nr=>intro _;exact .nr
 | B0=>intro _;exact .B0
 | ro es a cap sz vs hb hcap h1 h2 h3 h4 ih=>
  intro _;refine .ro es a cap sz vs hb hcap (fun hne hz=>⟨(h1 hne hz).1,?_⟩) h2 (fun i j hi hj=>?_) (fun i j hi hj=>ih i j hi hj (fu (zaJ _) _ (hb i j hi hj)))
  ·have h0:0 < es.length:=zb1.2 hne;have:=h3 0 0 h0 (by rw [h2 0 h0];omega);exact (hcell _ _ _ (h1 hne hz).2 this).2
  ·have hz:0 < sz:=by rw [h2 i hi] at hj;omega
   exact (hcell _ _ _ (h1 (by intro e;simp [e] at hi) hz).2 (h3 i j hi hj)).1
 | bZ cs a vs hb h1 h3 h4 ih=>
  intro _;refine .bZ cs a vs hb (fun hne=>⟨(h1 hne).1,?_⟩) (fun j hj=>?_) (fun j hj=>ih j hj (fu (zaJ _) _ (hb j hj)))
  ·exact (hcell _ _ _ (h1 hne).2 (h3 0 (zb1.2 hne))).2
  ·exact (hcell _ _ _ (h1 (by intro e;simp [e] at hj)).2 (h3 j hj)).1
 | own id ext off len v h=>intro hb;exact .own _ _ _ _ _ (hO _ _ _ _ _ (by simpa [AV.bp] using hb) h)
 | aA id ext e o v h=>intro hb;exact .aA _ _ _ _ _ (hP _ _ _ _ _ (by simpa [AV.bp] using hb) h)
 | arr id ext e o sz len v h=>intro hb;exact .arr _ _ _ _ _ _ _ (hA _ _ _ _ _ _ (by simpa [AV.bp] using hb) h)
 | agg cs vs hs _ ih=>intro hb;simp only [AV.bp] at hb;exact .agg cs vs hs fun i hi hj=>ih i hi hj (cO hb i hi)
 | bl cs vs hs _ ih=>intro hb;simp only [AV.bp] at hb;exact .bl cs vs hs fun i hi hj=>ih i hi hj (cO hb i hi)
 | fn f cap vs hs _ ih=>intro hb;simp only [AV.bp] at hb;exact .fn f cap vs hs fun i hi hj=>ih i hi hj (cO hb i hi)
 | b8 f cap vs hs _ ih=>intro hb;simp only [AV.bp] at hb;exact .b8 f cap vs hs fun i hi hj=>ih i hi hj (cO hb i hi)
theorem V.bp {c:Ctx} {x:AV} {v:Value} (h:V c x v):x.bp c.H.length=true:=by
 induction h with
 | ro=>simp only [AV.bp]
 | bZ=>simp only [AV.bp]
 | own id ext off len v h=>simpa [AV.bp] using h.1.1
 | aA id ext e o v h=>simpa [AV.bp] using h.1.1
 | arr id ext e o sz len v h=>simpa [AV.bp] using h.1.1
 | agg cs vs hs _ ih=>simp only [AV.bp];exact jj fun i hi=>ih i hi (by omega)
 | bl cs vs hs _ ih=>simp only [AV.bp];exact jj fun i hi=>ih i hi (by omega)
 | fn f cap vs hs _ ih=>simp only [AV.bp];exact jj fun i hi=>ih i hi (by omega)
 | b8 f cap vs hs _ ih=>simp only [AV.bp];exact jj fun i hi=>ih i hi (by omega)
 | B0=>rfl
 | fI l b h=>simpa [AV.bp] using h.1.1
 | mp l b h=>simpa [AV.bp] using h.1.1
 | qy l b h=>simpa [AV.bp] using h.1.1
 | _=>simp [AV.bp]
section
variable {lo:Nat->Prop} {F:Fo} {c:Ctx}
theorem CX:∀ (l:List Nat) {t:List AV} {ts:Array Value},TR c t ts->TR c (fO l t) ts
 | [],t,ts,h=>h
 | d::l,t,ts,h=>CX l ⟨by simp [h.1],fun i hi hj=>by
  rw [zbW];split
  ·exact .any _
  ·exact h.2 i (by simpa using hi) hj⟩
theorem TR.hJ {d:Ctx} {t:List AV} {ts:Array Value} (h:TR c t ts) (hv:∀ x v,V c x v->V d x v):TR d t ts:=⟨h.1,fun i hi hj=>hv _ _ (h.2 i hi hj)⟩
theorem iS {n:Nat}:∀ {H:List Obj},bW n H=true->∀ (i:Nat) (o:Obj),H[i]?=some o->o.bp n=true
 | [],_,i,o,ho=>by simp at ho
 | x::H,h,0,o,ho=>by simp only [bW,za0] at h;simp at ho;rw [<-ho];exact h.1
 | x::H,h,i+1,o,ho=>by simp only [bW,za0] at h;exact iS h.2 i o (by simpa using ho)
theorem El.monoB {cr:RC->Code->Prop} {m:Nat} {c d:Ctx} {o:Obj} {wo:Go.Obj} (h:El cr c o wo) (hb:o.bp m=true) (hv:∀ x v,x.bp m=true->V c x v->V d x v):El cr d o wo:=by
 cases o with
 | mp es=>
  obtain ⟨l,k,e,h1,h2⟩:=h;exact ⟨l,k,e,h1,fun i hi hj=>⟨hv _ _ (xz hb i hi).1 (h2 i hi hj).1,hv _ _ (xz hb i hi).2 (h2 i hi hj).2⟩⟩
 | it s pos=>exact h
 | lp st t ps b6 body=>obtain ⟨r,e,h1,h2⟩:=h;exact ⟨r,e,⟨h1.1,fun i hi hj=>hv _ _ (cO hb i hi) (h1.2 i hi hj)⟩,h2⟩
 | _=>exact h
theorem D2 (h:SR F c) (m:Nat) (hb:bW m (c.H.take m)=true):
 ∃ d:Ctx,d.w=c.w/\d.H=c.H.take m/\SR F d/\(∀ x v,x.bp m=true->V c x v->V d x v)/\∀ n,n<=m->cW n c d:=by
 let d:Ctx:=⟨c.w,fun b=>F b\/bF (c.H.take m) c.ι b,c.ι,c.K,c.H.take m⟩;have aP:∀ (i:Nat) (o:Obj),(c.H.take m)[i]?=some o->i < m/\c.H[i]?=some o:=by
  intro i o ho;rw [zb5] at ho;split at ho
  ·exact ⟨by assumption,ho⟩
  ·simp at ho
 have hown:∀ b,bF (c.H.take m) c.ι b->bF c.H c.ι b:=by
  rintro b ⟨id,nl,sz,es,h1,h2,h3⟩;exact ⟨id,nl,sz,es,(aP _ _ h1).2,h2,h3⟩
 have ct:∀ i,i < m->Has c i->Has d i:=by
  rintro i h1 ⟨h2,h3⟩;exact ⟨by simp [d];omega,fun e=>h3 (aP _ _ e).2⟩
 have hsp:∀ j o,d.H[j]?=some o->o.sp=true->c.H[j]?=some o/\d.ι j=c.ι j/\d.w.heap[c.ι j]?=c.w.heap[c.ι j]?:=fun j o h1 _=>by
  refine ⟨?_,rfl,rfl⟩;simp only [d] at h1;rw [zb5] at h1;split at h1
  ·exact h1
  ·simp at h1
 have hV:∀ x v,x.bp m=true->V c x v->V d x v:=by
  intro x v hx hv;refine V.monoB m ?_ ?_ ?_ ?_ (fun i b hi hs=>⟨ct i hi hs.1,fun o h1 h2=>by obtain ⟨e1,_⟩:=hsp i o h1 h2;exact hs.2 o e1 h2⟩) hv hx
  ·intro b hnb _;refine ⟨rfl,?_⟩;rintro (hf | ho)
   ·exact hnb ((h.hO b).2 (.inl hf))
   ·exact hnb ((h.hO b).2 (.inr (hown b ho)))
  ·rintro i ext off len v hi ⟨g1,g2,g3⟩;exact ⟨ct i hi g1,g2,fun nl sz es hs=>g3 nl sz es (aP _ _ hs).2⟩
  ·rintro i ext e o v hi ⟨g1,a,g2,g3,g4⟩;exact ⟨ct i hi g1,a,g2,g3,fun nl sz es hs=>g4 nl sz es (aP _ _ hs).2⟩
  ·rintro i ext e o len v hi ⟨g1,a,g2,g3,g4⟩;exact ⟨ct i hi g1,a,g2,g3,fun nl sz es hs=>g4 nl sz es (aP _ _ hs).2⟩
 refine ⟨d,rfl,rfl,⟨⟨?_,?_⟩,fun b=>Iff.rfl,h.hF,fun b ho=>h.eX b (hown b ho),h.x.Kk hsp fun id o wo h1 h2 hs=>hs.monoB (iS hb id o h1) hV⟩,hV,fun n hn=>⟨za6 _,fun _ _ _ _=>rfl,fun x v hx hv=>hV x v (fu hn x hx) hv,fun b ho=> .inl (hown b ho),fun hl=>by simp [d];omega,dx.refl _,fun b hb=> .inl (cV hsp hb)⟩⟩
 ·intro id nl sz es hs hbk;obtain ⟨aeR,hs'⟩:=aP _ _ hs;obtain ⟨cells,elem,g1,g2,g3,g4,g5⟩:=h.hr.back id nl sz es hs' hbk;refine ⟨cells,elem,g1,g2,g3,.inr ⟨id,nl,sz,es,hs,hbk,rfl⟩,fun i hi=>⟨(g5 i hi).1,fun j hj=>?_⟩⟩;obtain ⟨u,hu,hv⟩:=(g5 i hi).2 j hj;have oQ:=iS hb id _ hs;simp only [Obj.bp] at oQ;exact ⟨u,hu,hV _ _ (cO (ij oQ i hi) j hj) hv⟩
 ·intro id id' nl sz es nl' sz' es' h1 h2 h3 h4 he;exact h.hr.inj id id' _ _ _ _ _ _ (aP _ _ h1).2 h2 (aP _ _ h3).2 h4 he
def Marks (lo:Nat->Prop) (w:World) (ds:List Deferred):Prop:=
 (∀ b,w.heap.size<=b->lo b)/\∃ Ds:List Nat,Ds.Nodup/\ds=Ds.map (fun D=>({ target:= .collected D,args:=#[] }:Deferred))/\∀ D∈Ds,lo D/\w.heap[D]?=some (.deferred (some []))
theorem Marks.nil {lo:Nat->Prop} {w:World} (h:∀ b,w.heap.size<=b->lo b):Marks lo w []:=⟨h,[],List.nodup_nil,rfl,fun D h=>by simp at h⟩
theorem Marks.oO {ds:List Deferred} (h:Marks lo c.w ds) (hr:SR F c) {n:Nat} {d:Ctx} (hf:cW n c d):Marks lo d.w ds:=by
 obtain ⟨h0,Ds,h1,h2,h3⟩:=h;refine ⟨fun b hb=>h0 b (zaK hf.size hb),Ds,h1,h2,fun D hD=>?_⟩;obtain ⟨h5,h4⟩:=h3 D hD;refine ⟨h5,?_⟩;have hlt:D < c.w.heap.size:=by
  rcases zaf D c.w.heap.size with e | e
  ·exact e
  ·rw [zak e] at h4;simp at h4
 rw [hf.keep D hlt ?_ ?_,h4]
 ·rintro ⟨id,nl,sz,es,g1,g2,g3⟩;obtain ⟨cells,elem,g4,_⟩:=hr.hr.back id nl sz es g1 g2;rw [g3,h4] at g4;simp at g4
 ·rintro ⟨id,o,g1,g2,g3⟩;obtain ⟨wo,g4,g5⟩:=hr.x.xr id o g1 g2;rw [g3,h4] at g4;injection g4 with g4
  exact g5.Gk _ g4.symm
structure FR (lo:Nat->Prop) (F:Fo) (G:Nat->List AV) (c:Ctx) (s:St) (a:Act):Prop where
 sr:SR F c
 tr:TR c s.tmps a.tmps
 hH:c.H=s.H
 df:Marks lo c.w a.defers
 gl:gY c G
theorem gY.oO {G:Nat->List AV} (hG:∀ g,AV.aT 0 (G g)=true) {d:Ctx} (h:gY c G) {n:Nat} (hf:cW n c d):gY d G:=
 fun g=>hf.vals _ _ (by simp only [AV.bp]) (h g)
theorem TR.set {t:List AV} {ts:Array Value} (h:TR c t ts) (i:Nat) {x:AV} (hx:∀ (hj:i < ts.size),V c x ts[i]):TR c (t.set i x) ts:=
 ⟨by simp [h.1],fun j hj hj'=>by
  rw [zbW];split
  ·rename_i e;subst e;exact hx hj'
  ·exact h.2 j (by simpa using hj) hj'⟩
theorem getD_some {t:List AV} {i:Nat} {x:AV} (h:t.getD i .any=x) (hx:x≠ .any):∃ hi:i < t.length,t[i]=x:=by
 rw [zbf] at h;by_cases hi:i < t.length
 ·rw [za2 hi,zar] at h;exact ⟨hi,h⟩
 ·rw [zan (Nat.le_of_not_lt hi),Option.getD_none] at h;exact (hx h.symm).elim
theorem FF {G:Nat->List AV} (hG:∀ g,AV.aT 0 (G g)=true) {s:St} {a:Act} (h:FR lo F G c s a) {id sz:Nat} {nl:Fl} {es:List (List AV)} (OO:s.H[id]?=some (.live nl sz es)) (hfree:nl.free=true):
 ∃ d:Ctx,d.w=c.w/\FR lo F G d ⟨s.tmps,s.H.set id .dead⟩ a/\(∀ n,cW n c d):=by
 have hid:=OO;rw [<-h.hH] at hid;have cv:=bL hid;let H':=c.H.set id .dead;have aP:∀ (i:Nat) bR bA bC,H'[i]?=some (.live bR bA bC)->i≠id/\c.H[i]?=some (.live bR bA bC):=by
  intro i bR bA bC hs;by_cases hi:i=id
  ·subst hi;simp [H',cv] at hs
  ·refine ⟨hi,?_⟩;rw [<-hs];simp only [H'];rw [za7 (fun q=>hi q.symm)]
 have hown:∀ b,bF H' c.ι b->bF c.H c.ι b/\(¬(nl= .nil/\es=[])->b≠c.ι id):=by
  rintro b ⟨i,bR,bA,bC,h1,h2,h3⟩;obtain ⟨hne,HZ⟩:=aP _ _ _ _ h1;exact ⟨⟨i,bR,bA,bC,HZ,h2,h3⟩,fun hbk he=>alone h.sr hid hbk hfree hne HZ h2 (by rw [h3,he])⟩
 let d:Ctx:=⟨c.w,fun b=>F b\/bF H' c.ι b,c.ι,c.K,H'⟩;have ct:∀ i,Has c i->Has d i:=by
  rintro i ⟨h1,h2⟩;refine ⟨by simpa [d,H'] using h1,fun e=>?_⟩;by_cases hi:i=id
  ·subst hi;simp [d,H',cv] at e
  ·refine h2 ?_;rw [<-e];simp only [d,H'];rw [za7 (fun q=>hi q.symm)]
 have hsp:∀ j o,d.H[j]?=some o->o.sp=true->c.H[j]?=some o/\d.ι j=c.ι j/\d.w.heap[c.ι j]?=c.w.heap[c.ι j]?:=by
  intro j o h1 h2;refine ⟨?_,rfl,rfl⟩;by_cases hj:j=id
  ·subst hj;simp [d,H',cv] at h1;subst h1;simp [Obj.sp] at h2
  ·rw [<-h1];simp only [d,H'];rw [za7 (fun q=>hj q.symm)]
 have hV:∀ x v,V c x v->V d x v:=by
  intro x v hv;refine V.mono ?_ ?_ ?_ ?_ (fun i b hs=>hs.keep ct hsp) hv
  ·intro b hnb _;refine ⟨rfl,?_⟩;rintro (hf | ho)
   ·exact hnb ((h.sr.hO b).2 (.inl hf))
   ·exact hnb ((h.sr.hO b).2 (.inr (hown b ho).1))
  ·rintro i e o l v ⟨g1,g2,g3⟩;exact ⟨ct i g1,g2,fun nl sz es hs=>g3 nl sz es (aP _ _ _ _ hs).2⟩
  ·rintro i e o l v ⟨g1,q,g2,g3,g4⟩;exact ⟨ct i g1,q,g2,g3,fun nl sz es hs=>g4 nl sz es (aP _ _ _ _ hs).2⟩
  ·rintro i e o l k v ⟨g1,q,g2,g3,g4⟩;exact ⟨ct i g1,q,g2,g3,fun nl sz es hs=>g4 nl sz es (aP _ _ _ _ hs).2⟩
 have aU:∀ n,cW n c d:=fun n=>⟨za6 _,fun _ _ _ _=>rfl,fun x v _ hv=>hV x v hv,fun b ho=> .inl (hown b ho).1,fun hn=>by simpa [d,H'] using hn,dx.refl _,fun b hb=> .inl (cV hsp hb)⟩
 have N5:SR F d:=by
  refine ⟨⟨?_,?_⟩,fun b=>Iff.rfl,h.sr.hF,fun b ho=>h.sr.eX b (hown b ho).1,h.sr.x.keep hsp hV⟩
  ·intro i bR bA bC hs hbk;obtain ⟨hne,hs'⟩:=aP _ _ _ _ hs;obtain ⟨cells,elem,g1,g2,g3,g4,g5⟩:=h.sr.hr.back i bR bA bC hs' hbk;refine ⟨cells,elem,g1,g2,g3,.inr ⟨i,bR,bA,bC,hs,hbk,rfl⟩,fun q hq=>⟨(g5 q hq).1,fun j hj=>?_⟩⟩;obtain ⟨u,hu,hv⟩:=(g5 q hq).2 j hj;exact ⟨u,hu,hV _ _ hv⟩
  ·intro i i' _ _ _ _ _ _ h1 h2 h3 h4 he;exact h.sr.hr.inj i i' _ _ _ _ _ _ (aP _ _ _ _ h1).2 h2 (aP _ _ _ _ h3).2 h4 he
 exact ⟨d,rfl,⟨N5,h.tr.hJ hV,by simp [d,H',h.hH],h.df,h.gl.oO hG (aU 0)⟩,aU⟩
theorem tu {G:Nat->List AV} (hG:∀ g,AV.aT 0 (G g)=true) {s s':St} {a:Act} (h:FR lo F G c s a) {t:Nat} (hf:ke t s=some s'):
 ∃ d:Ctx,d.w=c.w/\FR lo F G d s' a/\(∀ n,cW n c d)/\d.ι=c.ι:=by
 unfold ke at hf;split at hf
 case h_2=>injection hf with hf;subst hf;exact ⟨c,rfl,h,fun n=>cW.refl n c,rfl⟩
 rename_i id ext off len nA;split at hf
 case h_2=>simp at hf
 rename_i sz es hl;obtain ⟨nl,hid⟩:=bB hl;split at hf
 case isFalse=>simp at hf
 rename_i hc;obtain ⟨fe,Im,hfree⟩:=hc;injection hf with hf;subst hf
 rw [<-h.hH] at hid;have cv:=bL hid;have qz:cD s.H id=nl:=by rw [<-h.hH];simp [cD,hid]
 rw [qz];rw [qz] at hfree;obtain ⟨Ey,hte⟩:=getD_some nA (by simp);let H':=c.H.set id .dead;have aP:∀ (i:Nat) bR bA bC,H'[i]?=some (.live bR bA bC)->i≠id/\c.H[i]?=some (.live bR bA bC):=by
  intro i bR bA bC hs;by_cases hi:i=id
  ·subst hi;simp [H',cv] at hs
  ·refine ⟨hi,?_⟩;rw [<-hs];simp only [H'];rw [za7 (fun q=>hi q.symm)]
 have hown:∀ b,bF H' c.ι b->bF c.H c.ι b/\(¬(nl= .nil/\es=[])->b≠c.ι id):=by
  rintro b ⟨i,bR,bA,bC,h1,h2,h3⟩;obtain ⟨hne,HZ⟩:=aP _ _ _ _ h1;exact ⟨⟨i,bR,bA,bC,HZ,h2,h3⟩,fun hbk he=>alone h.sr hid hbk hfree hne HZ h2 (by rw [h3,he])⟩
 let d:Ctx:=⟨c.w,fun b=>F b\/bF H' c.ι b,c.ι,c.K,H'⟩;have ct:∀ i,Has c i->Has d i:=by
  rintro i ⟨h1,h2⟩;refine ⟨by simpa [d,H'] using h1,fun e=>?_⟩;by_cases hi:i=id
  ·subst hi;simp [d,H',cv] at e
  ·refine h2 ?_;rw [<-e];simp only [d,H'];rw [za7 (fun q=>hi q.symm)]
 have hsp:∀ j o,d.H[j]?=some o->o.sp=true->c.H[j]?=some o/\d.ι j=c.ι j/\d.w.heap[c.ι j]?=c.w.heap[c.ι j]?:=by
  intro j o h1 h2;refine ⟨?_,rfl,rfl⟩;by_cases hj:j=id
  ·subst hj;simp [d,H',cv] at h1;subst h1;simp [Obj.sp] at h2
  ·rw [<-h1];simp only [d,H'];rw [za7 (fun q=>hj q.symm)]
 have hV:∀ x v,V c x v->V d x v:=by
  intro x v hv;refine V.mono ?_ ?_ ?_ ?_ (fun i b hs=>hs.keep ct hsp) hv
  ·intro b hnb _;refine ⟨rfl,?_⟩;rintro (hf | ho)
   ·exact hnb ((h.sr.hO b).2 (.inl hf))
   ·exact hnb ((h.sr.hO b).2 (.inr (hown b ho).1))
  ·rintro i e o l v ⟨g1,g2,g3⟩;exact ⟨ct i g1,g2,fun nl sz es hs=>g3 nl sz es (aP _ _ _ _ hs).2⟩
  ·rintro i e o l v ⟨g1,q,g2,g3,g4⟩;exact ⟨ct i g1,q,g2,g3,fun nl sz es hs=>g4 nl sz es (aP _ _ _ _ hs).2⟩
  ·rintro i e o l k v ⟨g1,q,g2,g3,g4⟩;exact ⟨ct i g1,q,g2,g3,fun nl sz es hs=>g4 nl sz es (aP _ _ _ _ hs).2⟩
 have aU:∀ n,cW n c d:=fun n=>⟨za6 _,fun _ _ _ _=>rfl,fun x v _ hv=>hV x v hv,fun b ho=> .inl (hown b ho).1,fun hn=>by simpa [d,H'] using hn,dx.refl _,fun b hb=> .inl (cV hsp hb)⟩
 have N5:SR F d:=by
  refine ⟨⟨?_,?_⟩,fun b=>Iff.rfl,h.sr.hF,fun b ho=>h.sr.eX b (hown b ho).1,h.sr.x.keep hsp hV⟩
  ·intro i bR bA bC hs hbk;obtain ⟨hne,hs'⟩:=aP _ _ _ _ hs;obtain ⟨cells,elem,g1,g2,g3,g4,g5⟩:=h.sr.hr.back i bR bA bC hs' hbk;refine ⟨cells,elem,g1,g2,g3,.inr ⟨i,bR,bA,bC,hs,hbk,rfl⟩,fun q hq=>⟨(g5 q hq).1,fun j hj=>?_⟩⟩;obtain ⟨u,hu,hv⟩:=(g5 q hq).2 j hj;exact ⟨u,hu,hV _ _ hv⟩
  ·intro i i' _ _ _ _ _ _ h1 h2 h3 h4 he;exact h.sr.hr.inj i i' _ _ _ _ _ _ (aP _ _ _ _ h1).2 h2 (aP _ _ _ _ h3).2 h4 he
 refine ⟨d,rfl,⟨N5,TR.set (h.tr.hJ hV) t (fun hj=>?_),by simp [d,H',h.hH],h.df,h.gl.oO hG (aU 0)⟩,aU,rfl⟩;have hv:=h.tr.2 t Ey hj;rw [hte] at hv;generalize a.tmps[t]=tv at hv
 cases hv with
 | own _ _ _ _ _ how=>
  obtain ⟨_,_,how⟩:=how;obtain ⟨hle,how⟩:=how _ _ _ hid;obtain ⟨V5,how⟩:=how fe;rcases how with ⟨q1,q2,rfl⟩ | ⟨hbk,cap,rfl,hcap⟩
  ·subst q2;simp only [su,List.drop_nil,List.take_nil];exact .B0
  ·obtain ⟨cells,elem,g1,g2,g3,g4,g5⟩:=h.sr.hr.back id nl sz es hid hbk;have hro:su nl es ((es.drop off).take len)= .ro ((es.drop off).take len):=rfl;rw [hro];have hlen:((es.drop off).take len).length=len:=by simp;omega
   conv=>rhs;rw [<-hlen]
   refine .ro _ _ cap sz (fun i j=>(cells[(off+i)*sz+j]?).getD undef) (fun i j hi hj=>cO (ij Im i hi) j hj) (by omega) (fun _ _=>⟨rfl,?_⟩) (fun i hi=>?_) (fun i j hi hj=>?_) (fun i j hi hj=>?_)
   ·rintro (hf | ho)
    ·exact h.sr.eX _ ⟨id,nl,sz,es,hid,hbk,rfl⟩ hf
    ·exact (hown _ ho).2 hbk rfl
   ·simp only [zao,zaq];exact (g5 _ _).1
   ·simp only [zao,zaq] at hj;obtain ⟨u,hu,_⟩:=(g5 (off+i) (by omega)).2 j hj;have e1:off*sz+i*sz=(off+i)*sz:=by rw [zaw]
    simp only [d,World.cell?,g1,e1,hu];simp
   ·simp only [zao,zaq] at hj ⊢;obtain ⟨u,hu,hv⟩:=(g5 (off+i) (by omega)).2 j hj;rw [hu];exact hV _ _ hv
theorem Fz {G:Nat->List AV} (hG:∀ g,AV.aT 0 (G g)=true) {s s':St} {a:Act} (h:FR lo F G c s a) {t:Nat} (hf:uh t s=some s'):
 ∃ d:Ctx,d.w=c.w/\FR lo F G d s' a/\∀ n,cW n c d:=by
 unfold uh at hf;split at hf
 case h_2=>simp at hf
 rename_i id nA;split at hf
 case h_2=>simp at hf
 rename_i sz cs hid;split at hf
 case isFalse=>simp at hf
 rename_i Im;injection hf with hf;subst hf
 rw [<-h.hH] at hid;have cv:=bL hid;obtain ⟨Ey,hte⟩:=getD_some nA (by simp);have hbk:¬((Fl.norm=Fl.nil)/\[cs]=[]):=by simp
 let H':=c.H.set id .dead;have aP:∀ (i:Nat) bR bA bC,H'[i]?=some (.live bR bA bC)->i≠id/\c.H[i]?=some (.live bR bA bC):=by
  intro i bR bA bC hs;by_cases hi:i=id
  ·subst hi;simp [H',cv] at hs
  ·refine ⟨hi,?_⟩;rw [<-hs];simp only [H'];rw [za7 (fun q=>hi q.symm)]
 have hown:∀ b,bF H' c.ι b->bF c.H c.ι b/\b≠c.ι id:=by
  rintro b ⟨i,bR,bA,bC,h1,h2,h3⟩;obtain ⟨hne,HZ⟩:=aP _ _ _ _ h1;exact ⟨⟨i,bR,bA,bC,HZ,h2,h3⟩,fun he=>alone h.sr hid hbk rfl hne HZ h2 (by rw [h3,he])⟩
 let d:Ctx:=⟨c.w,fun b=>F b\/bF H' c.ι b,c.ι,c.K,H'⟩;have ct:∀ i,Has c i->Has d i:=by
  rintro i ⟨h1,h2⟩;refine ⟨by simpa [d,H'] using h1,fun e=>?_⟩;by_cases hi:i=id
  ·subst hi;simp [d,H',cv] at e
  ·refine h2 ?_;rw [<-e];simp only [d,H'];rw [za7 (fun q=>hi q.symm)]
 have hsp:∀ j o,d.H[j]?=some o->o.sp=true->c.H[j]?=some o/\d.ι j=c.ι j/\d.w.heap[c.ι j]?=c.w.heap[c.ι j]?:=by
  intro j o h1 h2;refine ⟨?_,rfl,rfl⟩;by_cases hj:j=id
  ·subst hj;simp [d,H',cv] at h1;subst h1;simp [Obj.sp] at h2
  ·rw [<-h1];simp only [d,H'];rw [za7 (fun q=>hj q.symm)]
 have hV:∀ x v,V c x v->V d x v:=by
  intro x v hv;refine V.mono ?_ ?_ ?_ ?_ (fun i b hs=>hs.keep ct hsp) hv
  ·intro b hnb _;refine ⟨rfl,?_⟩;rintro (hf | ho)
   ·exact hnb ((h.sr.hO b).2 (.inl hf))
   ·exact hnb ((h.sr.hO b).2 (.inr (hown b ho).1))
  ·rintro i e o l v ⟨g1,g2,g3⟩;exact ⟨ct i g1,g2,fun nl sz es hs=>g3 nl sz es (aP _ _ _ _ hs).2⟩
  ·rintro i e o l v ⟨g1,q,g2,g3,g4⟩;exact ⟨ct i g1,q,g2,g3,fun nl sz es hs=>g4 nl sz es (aP _ _ _ _ hs).2⟩
  ·rintro i e o l k v ⟨g1,q,g2,g3,g4⟩;exact ⟨ct i g1,q,g2,g3,fun nl sz es hs=>g4 nl sz es (aP _ _ _ _ hs).2⟩
 have aU:∀ n,cW n c d:=fun n=>⟨za6 _,fun _ _ _ _=>rfl,fun x v _ hv=>hV x v hv,fun b ho=> .inl (hown b ho).1,fun hn=>by simpa [d,H'] using hn,dx.refl _,fun b hb=> .inl (cV hsp hb)⟩
 have N5:SR F d:=by
  refine ⟨⟨?_,?_⟩,fun b=>Iff.rfl,h.sr.hF,fun b ho=>h.sr.eX b (hown b ho).1,h.sr.x.keep hsp hV⟩
  ·intro i bR bA bC hs hbk;obtain ⟨hne,hs'⟩:=aP _ _ _ _ hs;obtain ⟨cells,elem,g1,g2,g3,g4,g5⟩:=h.sr.hr.back i bR bA bC hs' hbk;refine ⟨cells,elem,g1,g2,g3,.inr ⟨i,bR,bA,bC,hs,hbk,rfl⟩,fun q hq=>⟨(g5 q hq).1,fun j hj=>?_⟩⟩;obtain ⟨u,hu,hv⟩:=(g5 q hq).2 j hj;exact ⟨u,hu,hV _ _ hv⟩
  ·intro i i' _ _ _ _ _ _ h1 h2 h3 h4 he;exact h.sr.hr.inj i i' _ _ _ _ _ _ (aP _ _ _ _ h1).2 h2 (aP _ _ _ _ h3).2 h4 he
 refine ⟨d,rfl,⟨N5,TR.set (h.tr.hJ hV) t (fun hj=>?_),by simp [d,H',h.hH],h.df,h.gl.oO hG (aU 0)⟩,aU⟩;have hv:=h.tr.2 t Ey hj;rw [hte] at hv;generalize a.tmps[t]=tv at hv
 cases hv with
 | aA _ _ _ _ _ Jy=>
  obtain ⟨_,q,rfl,aeS,Jy⟩:=Jy;have hq:=(Jy _ _ _ hid).2 (by simp);obtain ⟨vs,g1,g2,g3⟩:=jW h.sr.hr hid (e:=0) (by simp);simp only [zaF] at g1 g2 g3;subst hq;refine .bZ cs _ vs (fun j hj=>cO Im j hj) (fun _=>⟨rfl,?_⟩) (fun j hj=>?_) (fun j hj=>hV _ _ (g3 j hj))
  ·rintro (hf | ho)
   ·exact h.sr.eX _ ⟨id,.norm,sz,[cs],hid,hbk,rfl⟩ hf
   ·exact (hown _ ho).2 rfl
  ·simpa using g2 j hj
theorem zQ {G:Nat->List AV} (h:SR F c) (sz:Nat):
 ∃ d:Ctx,d.w=c.w/\d.H=c.H++[.live .nil sz []]/\SR F d/\(∀ x v,V c x v->V d x v)/\(∀ n,cW n c d)/\V d (.own c.H.length 0 0 0) (.slice none 0 0)/\(gY c G->gY d G):=by
 let H':=c.H++[.live .nil sz []];have aP:∀ (i:Nat) bR bA bC,H'[i]?=some (.live bR bA bC)->(c.H[i]?=some (.live bR bA bC))\/(i=c.H.length/\bR= .nil/\bC=[]):=by
  intro i bR bA bC hs;rcases zaf i c.H.length with e | e
  ·left;simp only [H'] at hs;rw [zap e] at hs;exact hs
  ·right;simp only [H'] at hs;rw [zav e] at hs;have hi:i - c.H.length=0:=by
    rcases Nat.eq_zero_or_pos (i - c.H.length) with q | q
    ·exact q
    ·rw [zan (by simp;omega)] at hs;simp at hs
   rw [hi] at hs;simp at hs;exact ⟨by omega,hs.1.symm,hs.2.2⟩
 have hown:∀ b,bF H' c.ι b->bF c.H c.ι b:=by
  rintro b ⟨i,bR,bA,bC,h1,h2,h3⟩;rcases aP _ _ _ _ h1 with e | ⟨_,e1,e2⟩
  ·exact ⟨i,bR,bA,bC,e,h2,h3⟩
  ·exact (h2 ⟨e1,e2⟩).elim
 let d:Ctx:=⟨c.w,fun b=>F b\/bF H' c.ι b,c.ι,c.K,H'⟩;have ct:∀ i,Has c i->Has d i:=by
  rintro i ⟨h1,h2⟩;refine ⟨by simp [d,H'];omega,fun e=>h2 ?_⟩;rw [<-e];simp only [d,H'];rw [zap h1]
 have hsp:∀ j o,d.H[j]?=some o->o.sp=true->c.H[j]?=some o/\d.ι j=c.ι j/\d.w.heap[c.ι j]?=c.w.heap[c.ι j]?:=by
  intro j o h1 h2;refine ⟨?_,rfl,rfl⟩;rcases zaf j c.H.length with e | e
  ·simp only [d,H'] at h1;rw [zap e] at h1;exact h1
  ·exfalso;simp only [d,H'] at h1;rw [zav e] at h1;have hm:=List.mem_of_getElem? h1;simp at hm;subst hm;simp [Obj.sp] at h2
 have hV:∀ x v,V c x v->V d x v:=by
  intro x v hv;refine V.mono ?_ ?_ ?_ ?_ (fun i b hs=>hs.keep ct hsp) hv
  ·intro b hnb _;refine ⟨rfl,?_⟩;rintro (hf | ho)
   ·exact hnb ((h.hO b).2 (.inl hf))
   ·exact hnb ((h.hO b).2 (.inr (hown b ho)))
  ·rintro i e o l v ⟨g1,g2,g3⟩;refine ⟨ct i g1,g2,fun nl sz es hs=>?_⟩;rcases aP _ _ _ _ hs with q | ⟨q,_⟩
   ·exact g3 nl sz es q
   ·exact absurd g1.1 (by omega)
  ·rintro i e o l v ⟨g1,q,g2,g3,g4⟩;refine ⟨ct i g1,q,g2,g3,fun nl sz es hs=>?_⟩;rcases aP _ _ _ _ hs with q | ⟨q,_⟩
   ·exact g4 nl sz es q
   ·exact absurd g1.1 (by omega)
  ·rintro i e o l k v ⟨g1,q,g2,g3,g4⟩;refine ⟨ct i g1,q,g2,g3,fun nl sz es hs=>?_⟩;rcases aP _ _ _ _ hs with q | ⟨q,_⟩
   ·exact g4 nl sz es q
   ·exact absurd g1.1 (by omega)
 refine ⟨d,rfl,rfl,⟨⟨?_,?_⟩,fun b=>Iff.rfl,h.hF,fun b ho=>h.eX b (hown b ho),h.x.keep hsp hV⟩,hV,
  fun n=>⟨za6 _,fun _ _ _ _=>rfl,fun x v _ hv=>hV x v hv,fun b ho=> .inl (hown b ho),fun hn=>by simp [d,H'];omega,dx.refl _,fun b hb=> .inl (cV hsp hb)⟩,?_,fun hg g=>hV _ _ (hg g)⟩
 ·intro i bR bA bC hs hbk;rcases aP _ _ _ _ hs with hs' | ⟨_,q1,q2⟩
  ·obtain ⟨cells,elem,g1,g2,g3,g4,g5⟩:=h.hr.back i bR bA bC hs' hbk;refine ⟨cells,elem,g1,g2,g3,.inr ⟨i,bR,bA,bC,hs,hbk,rfl⟩,fun q hq=>⟨(g5 q hq).1,fun j hj=>?_⟩⟩;obtain ⟨u,hu,hv⟩:=(g5 q hq).2 j hj;exact ⟨u,hu,hV _ _ hv⟩
  ·exact (hbk ⟨q1,q2⟩).elim
 ·intro i i' _ _ _ _ _ _ h1 h2 h3 h4 he;rcases aP _ _ _ _ h1 with e | ⟨_,e1,e2⟩
  ·rcases aP _ _ _ _ h3 with e' | ⟨_,Sz,e2'⟩
   ·exact h.hr.inj i i' _ _ _ _ _ _ e h2 e' h4 he
   ·exact (h4 ⟨Sz,e2'⟩).elim
  ·exact (h2 ⟨e1,e2⟩).elim
 ·refine .own _ _ _ _ _ ⟨by simp [Has,d,H'],⟨_,_,rfl⟩,fun bR bA bC hs=>?_⟩;have hs':H'[c.H.length]?=some (.live bR bA bC):=hs;simp [H'] at hs';obtain ⟨rfl,rfl,rfl⟩:=hs';exact ⟨by simp,fun _=>⟨by simp,.inl ⟨rfl,rfl,rfl⟩⟩⟩
theorem IT {G:Nat->List AV} (h:SR F c) (k:Nat):
 ∃ d:Ctx,d.w=c.w/\d.H=c.H++List.replicate k .iA/\SR F d/\(∀ x v,V c x v->V d x v)/\(∀ n,cW n c d)/\(gY c G->gY d G):=by
 let H':=c.H++List.replicate k .iA;have aP:∀ (i:Nat) bR bA bC,H'[i]?=some (.live bR bA bC)->(c.H[i]?=some (.live bR bA bC)):=by
  intro i bR bA bC hs;rcases zaf i c.H.length with e | e
  ·simp only [H'] at hs;rw [zap e] at hs;exact hs
  ·exfalso;simp only [H'] at hs;rw [zav e,List.getElem?_replicate] at hs;split at hs<;>simp at hs
 have hown:∀ b,bF H' c.ι b->bF c.H c.ι b:=by
  rintro b ⟨i,bR,bA,bC,h1,h2,h3⟩;exact ⟨i,bR,bA,bC,aP _ _ _ _ h1,h2,h3⟩
 let d:Ctx:=⟨c.w,fun b=>F b\/bF H' c.ι b,c.ι,c.K,H'⟩;have ct:∀ i,Has c i->Has d i:=by
  rintro i ⟨h1,h2⟩;refine ⟨by simp [d,H'];omega,fun e=>h2 ?_⟩;rw [<-e];simp only [d,H'];rw [zap h1]
 have hsp:∀ j o,d.H[j]?=some o->o.sp=true->c.H[j]?=some o/\d.ι j=c.ι j/\d.w.heap[c.ι j]?=c.w.heap[c.ι j]?:=by
  intro j o h1 h2;refine ⟨?_,rfl,rfl⟩;rcases zaf j c.H.length with e | e
  ·simp only [d,H'] at h1;rw [zap e] at h1;exact h1
  ·exfalso;simp only [d,H'] at h1;rw [zav e] at h1;have hm:=List.mem_of_getElem? h1;rw [List.eq_of_mem_replicate hm] at h2;simp [Obj.sp] at h2
 have hV:∀ x v,V c x v->V d x v:=by
  intro x v hv;refine V.mono ?_ ?_ ?_ ?_ (fun i b hs=>hs.keep ct hsp) hv
  ·intro b hnb _;refine ⟨rfl,?_⟩;rintro (hf | ho)
   ·exact hnb ((h.hO b).2 (.inl hf))
   ·exact hnb ((h.hO b).2 (.inr (hown b ho)))
  ·rintro i e o l v ⟨g1,g2,g3⟩;exact ⟨ct i g1,g2,fun nl sz es hs=>g3 nl sz es (aP _ _ _ _ hs)⟩
  ·rintro i e o l v ⟨g1,q,g2,g3,g4⟩;exact ⟨ct i g1,q,g2,g3,fun nl sz es hs=>g4 nl sz es (aP _ _ _ _ hs)⟩
  ·rintro i e o l k v ⟨g1,q,g2,g3,g4⟩;exact ⟨ct i g1,q,g2,g3,fun nl sz es hs=>g4 nl sz es (aP _ _ _ _ hs)⟩
 refine ⟨d,rfl,rfl,⟨⟨?_,?_⟩,fun b=>Iff.rfl,h.hF,fun b ho=>h.eX b (hown b ho),h.x.keep hsp hV⟩,hV,
  fun n=>⟨za6 _,fun _ _ _ _=>rfl,fun x v _ hv=>hV x v hv,fun b ho=> .inl (hown b ho),fun hn=>by simp [d,H'];omega,dx.refl _,fun b hb=> .inl (cV hsp hb)⟩,fun hg g=>hV _ _ (hg g)⟩
 ·intro i bR bA bC hs hbk;have hs':=aP _ _ _ _ hs;obtain ⟨cells,elem,g1,g2,g3,g4,g5⟩:=h.hr.back i bR bA bC hs' hbk;refine ⟨cells,elem,g1,g2,g3,.inr ⟨i,bR,bA,bC,hs,hbk,rfl⟩,fun q hq=>⟨(g5 q hq).1,fun j hj=>?_⟩⟩;obtain ⟨u,hu,hv⟩:=(g5 q hq).2 j hj;exact ⟨u,hu,hV _ _ hv⟩
 ·intro i i' _ _ _ _ _ _ h1 h2 h3 h4 he;exact h.hr.inj i i' _ _ _ _ _ _ (aP _ _ _ _ h1) h2 (aP _ _ _ _ h3) h4 he
end
end Go.Am
