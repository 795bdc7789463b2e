/- References below a bound; ghost steps. Condition: the state's relation. -/
import Derived.Test.YtafgdbaekppjcaaGreatDoorAmMa
set_option linter.unusedSectionVars false
set_option linter.unusedVariables false
set_option linter.unusedSimpArgs false
namespace Go.Am
mutual
theorem fe {m n:Nat} (h:m<=n):∀ (x:AV),x.bD m=true->x.bD n=true
 | .own ..,hx=>by simp only [AV.bD,decide_eq_true_eq] at hx ⊢;omega
 | .aJ ..,hx=>by simp only [AV.bD,decide_eq_true_eq] at hx ⊢;omega
 | .arr ..,hx=>by simp only [AV.bD,decide_eq_true_eq] at hx ⊢;omega
 | .agg cs,hx=>by simp only [AV.bD] at hx ⊢;exact gj h cs hx
 | .aY cs,hx=>by simp only [AV.bD] at hx ⊢;exact gj h cs hx
 | .bR cs,_=>by simp [AV.bD]
 | .fn _ cs,hx=>by simp only [AV.bD] at hx ⊢;exact gj h cs hx
 | .eD _ cs,hx=>by simp only [AV.bD] at hx ⊢;exact gj h cs hx
 | .ro es,_=>by simp [AV.bD]
 | .any,_=>by simp [AV.bD]
 | .bool _,_=>by simp [AV.bD]
 | .int _ _,_=>by simp [AV.bD]
 | .str _,_=>by simp [AV.bD]
 | .gZ,_=>by simp [AV.bD]
 | .bF,_=>by simp [AV.bD]
 | .jw,_=>by simp [AV.bD]
 | .pO,_=>by simp [AV.bD]
 | .fA _,hx=>by simp only [AV.bD,decide_eq_true_eq] at hx ⊢;omega
 | .mp _,hx=>by simp only [AV.bD,decide_eq_true_eq] at hx ⊢;omega
 | .qB _,hx=>by simp only [AV.bD,decide_eq_true_eq] at hx ⊢;omega
 | .nu,_=>by simp [AV.bD]
theorem gj {m n:Nat} (h:m<=n):∀ (xs:List AV),AV.aR m xs=true->AV.aR n xs=true
 | [],_=>by simp [AV.aR]
 | x::xs,hx=>by
  simp only [AV.aR,za0] at hx ⊢;exact ⟨fe h x hx.1,gj h xs hx.2⟩
theorem GJ {m n:Nat} (h:m<=n):∀ (xs:List (List AV)),AV.bO m xs=true->AV.bO n xs=true
 | [],_=>by simp [AV.bO]
 | x::xs,hx=>by
  simp only [AV.bO,za0] at hx ⊢;exact ⟨gj h x hx.1,GJ h xs hx.2⟩
end
theorem ji {n:Nat}:∀ {xs:List AV},(∀ i (hi:i < xs.length),xs[i].bD n=true)->AV.aR n xs=true
 | [],_=>by simp [AV.aR]
 | x::xs,h=>by
  simp only [AV.aR,za0];exact ⟨h 0 (by simp),ji fun i hi=>h (i+1) (Nat.succ_lt_succ hi)⟩
theorem V.monoB {c d:Ctx} (n:Nat) (hw:∀ b,¬ c.O b->(c.w.heap[b]?).isSome->d.w.heap[b]?=c.w.heap[b]?/\¬ d.O b)
 (hO:∀ id ext off len v,id < n->OW c id ext off len v->OW d id ext off len v)
 (hP:∀ id ext e o v,id < n->PO c id ext e o v->PO d id ext e o v)
 (hA:∀ id ext e o len v,id < n->AO c id ext e o len v->AO d id ext e o len v)
 (hS:∀ id b,id < n->SV c id b->SV d id b)
 {x:AV} {v:Value} (h:V c x v):x.bD n=true->V d x v:=by
 have hcell:∀ (b o:Nat) (u:Value),¬ c.O b->c.w.cell? ⟨b,o,none⟩=some u->d.w.cell? ⟨b,o,none⟩=some u/\¬ d.O b:=by
  intro b o u hb hc;have hs:(c.w.heap[b]?).isSome:=by
   unfold World.cell? at hc
   cases h:c.w.heap[b]? with
   | none=>simp [h] at hc
   | some _=>rfl
  obtain ⟨e1,e2⟩:=hw b hb hs;exact ⟨by rw [<-hc];simp [World.cell?,e1],e2⟩
 induction h with
 | any v=>intro _;exact .any v
 | bool b=>intro _;exact .bool b
 | int k n=>intro _;exact .int k n
 | str s=>intro _;exact .str s
 | gZ=>intro _;exact .gZ
 | bF=>intro _;exact .bF
 | jw=>intro _;exact .jw
 | pO=>intro _;exact .pO
 | fA l b h=>intro hb;exact .fA l b (hS _ _ (by simpa [AV.bD] using hb) h)
 | mp l b h=>intro hb;exact .mp l b (hS _ _ (by simpa [AV.bD] using hb) h)
 | qB l b h=>intro hb;exact .qB l b (hS _ _ (by simpa [AV.bD] using hb) h)
 | nu=>intro _;exact .nu
 | CB=>intro _;exact .CB
 | ro es a cap sz vs hb hcap h1 h2 h3 h4 ih=>
  intro _;refine .ro es a cap sz vs hb hcap (fun hne hz=>⟨(h1 hne hz).1,?_⟩) h2 (fun i j hi hj=>?_) (fun i j hi hj=>ih i j hi hj (fe (zaO _) _ (hb i j hi hj)))
  ·have h0:0 < es.length:=zb3.2 hne;have:=h3 0 0 h0 (by rw [h2 0 h0];omega);exact (hcell _ _ _ (h1 hne hz).2 this).2
  ·have hz:0 < sz:=by rw [h2 i hi] at hj;omega
   exact (hcell _ _ _ (h1 (by intro e;simp [e] at hi) hz).2 (h3 i j hi hj)).1
 | bR cs a vs hb h1 h3 h4 ih=>
  intro _;refine .bR cs a vs hb (fun hne=>⟨(h1 hne).1,?_⟩) (fun j hj=>?_) (fun j hj=>ih j hj (fe (zaO _) _ (hb j hj)))
  ·exact (hcell _ _ _ (h1 hne).2 (h3 0 (zb3.2 hne))).2
  ·exact (hcell _ _ _ (h1 (by intro e;simp [e] at hj)).2 (h3 j hj)).1
 | own id ext off len v h=>intro hb;exact .own _ _ _ _ _ (hO _ _ _ _ _ (by simpa [AV.bD] using hb) h)
 | aJ id ext e o v h=>intro hb;exact .aJ _ _ _ _ _ (hP _ _ _ _ _ (by simpa [AV.bD] using hb) h)
 | arr id ext e o sz len v h=>intro hb;exact .arr _ _ _ _ _ _ _ (hA _ _ _ _ _ _ (by simpa [AV.bD] using hb) h)
 | agg cs vs hs _ ih=>intro hb;simp only [AV.bD] at hb;exact .agg cs vs hs fun i hi hj=>ih i hi hj (cJ hb i hi)
 | aY cs vs hs _ ih=>intro hb;simp only [AV.bD] at hb;exact .aY cs vs hs fun i hi hj=>ih i hi hj (cJ hb i hi)
 | fn f cap vs hs _ ih=>intro hb;simp only [AV.bD] at hb;exact .fn f cap vs hs fun i hi hj=>ih i hi hj (cJ hb i hi)
 | eD f cap vs hs _ ih=>intro hb;simp only [AV.bD] at hb;exact .eD f cap vs hs fun i hi hj=>ih i hi hj (cJ hb i hi)
theorem V.bD {c:Ctx} {x:AV} {v:Value} (h:V c x v):x.bD c.H.length=true:=by
 induction h with
 | ro=>simp only [AV.bD]
 | bR=>simp only [AV.bD]
 | own id ext off len v h=>simpa [AV.bD] using h.1.1
 | aJ id ext e o v h=>simpa [AV.bD] using h.1.1
 | arr id ext e o sz len v h=>simpa [AV.bD] using h.1.1
 | agg cs vs hs _ ih=>simp only [AV.bD];exact ji fun i hi=>ih i hi (by omega)
 | aY cs vs hs _ ih=>simp only [AV.bD];exact ji fun i hi=>ih i hi (by omega)
 | fn f cap vs hs _ ih=>simp only [AV.bD];exact ji fun i hi=>ih i hi (by omega)
 | eD f cap vs hs _ ih=>simp only [AV.bD];exact ji fun i hi=>ih i hi (by omega)
 | CB=>rfl
 | fA l b h=>simpa [AV.bD] using h.1.1
 | mp l b h=>simpa [AV.bD] using h.1.1
 | qB l b h=>simpa [AV.bD] using h.1.1
 | _=>simp [AV.bD]
section
variable {lo:Nat->Prop} {F:Fo} {c:Ctx}
theorem Dy:∀ (l:List Nat) {t:List AV} {ts:Array Value},TR c t ts->TR c (fI l t) ts
 | [],t,ts,h=>h
 | d::l,t,ts,h=>Dy l ⟨by simp [h.1],fun i hi hj=>by
  rw [zbY];split
  ·exact .any _
  ·exact h.2 i (by simpa using hi) hj⟩
theorem TR.hY {d:Ctx} {t:List AV} {ts:Array Value} (h:TR c t ts) (hv:∀ x v,V c x v->V d x v):TR d t ts:=⟨h.1,fun i hi hj=>hv _ _ (h.2 i hi hj)⟩
theorem iS {n:Nat}:∀ {H:List Obj},bT n H=true->∀ (i:Nat) (o:Obj),H[i]?=some o->o.bD n=true
 | [],_,i,o,ho=>by simp at ho
 | x::H,h,0,o,ho=>by simp only [bT,za0] at h;simp at ho;rw [<-ho];exact h.1
 | x::H,h,i+1,o,ho=>by simp only [bT,za0] at h;exact iS h.2 i o (by simpa using ho)
theorem Fi.monoB {cr:RC->Code->Prop} {m:Nat} {c d:Ctx} {o:Obj} {wo:Go.Obj} (h:Fi cr c o wo) (hb:o.bD m=true) (hv:∀ x v,x.bD m=true->V c x v->V d x v):Fi cr d o wo:=by
 cases o with
 | mp es=>
  obtain ⟨l,k,e,h1,h2⟩:=h;exact ⟨l,k,e,h1,fun i hi hj=>⟨hv _ _ (xF hb i hi).1 (h2 i hi hj).1,hv _ _ (xF hb i hi).2 (h2 i hi hj).2⟩⟩
 | it s pos=>exact h
 | lp st t ps b6 body=>obtain ⟨r,e,h1,h2⟩:=h;exact ⟨r,e,⟨h1.1,fun i hi hj=>hv _ _ (cJ hb i hi) (h1.2 i hi hj)⟩,h2⟩
 | _=>exact h
theorem ET (h:SR F c) (m:Nat) (hb:bT m (c.H.take m)=true):
 ∃ d:Ctx,d.w=c.w/\d.H=c.H.take m/\SR F d/\(∀ x v,x.bD m=true->V c x v->V d x v)/\∀ n,n<=m->cK n c d:=by
 let d:Ctx:=⟨c.w,fun b=>F b\/bz (c.H.take m) c.ι b,c.ι,c.K,c.H.take m⟩;have aL:∀ (i:Nat) (o:Obj),(c.H.take m)[i]?=some o->i < m/\c.H[i]?=some o:=by
  intro i o ho;rw [zbn] at ho;split at ho
  ·exact ⟨by assumption,ho⟩
  ·simp at ho
 have hown:∀ b,bz (c.H.take m) c.ι b->bz c.H c.ι b:=by
  rintro b ⟨id,nl,sz,es,h1,h2,h3⟩;exact ⟨id,nl,sz,es,(aL _ _ h1).2,h2,h3⟩
 have bY:∀ i,i < m->Has c i->Has d i:=by
  rintro i h1 ⟨h2,h3⟩;exact ⟨by simp [d];omega,fun e=>h3 (aL _ _ e).2⟩
 have hsp:∀ j o,d.H[j]?=some o->o.sp=true->c.H[j]?=some o/\d.ι j=c.ι j/\d.w.heap[c.ι j]?=c.w.heap[c.ι j]?:=fun j o h1 _=>by
  refine ⟨?_,rfl,rfl⟩;simp only [d] at h1;rw [zbn] at h1;split at h1
  ·exact h1
  ·simp at h1
 have hV:∀ x v,x.bD m=true->V c x v->V d x v:=by
  intro x v hx hv;refine V.monoB m ?_ ?_ ?_ ?_ (fun i b hi hs=>⟨bY i hi hs.1,fun o h1 h2=>by obtain ⟨e1,_⟩:=hsp i o h1 h2;exact hs.2 o e1 h2⟩) hv hx
  ·intro b hnb _;refine ⟨rfl,?_⟩;rintro (hf | ho)
   ·exact hnb ((h.hO b).2 (.inl hf))
   ·exact hnb ((h.hO b).2 (.inr (hown b ho)))
  ·rintro i ext off len v hi ⟨g1,g2,g3⟩;exact ⟨bY i hi g1,g2,fun nl sz es hs=>g3 nl sz es (aL _ _ hs).2⟩
  ·rintro i ext e o v hi ⟨g1,a,g2,g3,g4⟩;exact ⟨bY i hi g1,a,g2,g3,fun nl sz es hs=>g4 nl sz es (aL _ _ hs).2⟩
  ·rintro i ext e o len v hi ⟨g1,a,g2,g3,g4⟩;exact ⟨bY i hi g1,a,g2,g3,fun nl sz es hs=>g4 nl sz es (aL _ _ hs).2⟩
 refine ⟨d,rfl,rfl,⟨⟨?_,?_⟩,fun b=>Iff.rfl,h.hF,fun b ho=>h.eF b (hown b ho),h.x.LQ hsp fun id o wo h1 h2 hs=>hs.monoB (iS hb id o h1) hV⟩,hV,fun n hn=>⟨za7 _,fun _ _ _ _=>rfl,fun x v hx hv=>hV x v (fe hn x hx) hv,fun b ho=> .inl (hown b ho),fun hl=>by simp [d];omega,cZ.refl _,fun b hb=> .inl (cD hsp hb)⟩⟩
 ·intro id nl sz es hs hbk;obtain ⟨afb,hs'⟩:=aL _ _ hs;obtain ⟨cells,elem,g1,g2,g3,g4,g5⟩:=h.hr.back id nl sz es hs' hbk;refine ⟨cells,elem,g1,g2,g3,.inr ⟨id,nl,sz,es,hs,hbk,rfl⟩,fun i hi=>⟨(g5 i hi).1,fun j hj=>?_⟩⟩;obtain ⟨u,hu,hv⟩:=(g5 i hi).2 j hj;have oS:=iS hb id _ hs;simp only [Obj.bD] at oS;exact ⟨u,hu,hV _ _ (cJ (iu oS i hi) j hj) hv⟩
 ·intro id id' nl sz es nl' sz' es' h1 h2 h3 h4 he;exact h.hr.inj id id' _ _ _ _ _ _ (aL _ _ h1).2 h2 (aL _ _ h3).2 h4 he
def Marks (lo:Nat->Prop) (w:World) (ds:List Deferred):Prop:=
 (∀ b,w.heap.size<=b->lo b)/\∃ Ds:List Nat,Ds.Nodup/\ds=Ds.map (fun D=>({ target:= .collected D,args:=#[] }:Deferred))/\∀ D∈Ds,lo D/\w.heap[D]?=some (.deferred (some []))
theorem Marks.nil {lo:Nat->Prop} {w:World} (h:∀ b,w.heap.size<=b->lo b):Marks lo w []:=⟨h,[],List.nodup_nil,rfl,fun D h=>by simp at h⟩
theorem Marks.oQ {ds:List Deferred} (h:Marks lo c.w ds) (hr:SR F c) {n:Nat} {d:Ctx} (hf:cK n c d):Marks lo d.w ds:=by
 obtain ⟨h0,Ds,h1,h2,h3⟩:=h;refine ⟨fun b hb=>h0 b (zaI hf.size hb),Ds,h1,h2,fun D hD=>?_⟩;obtain ⟨h5,h4⟩:=h3 D hD;refine ⟨h5,?_⟩;have hlt:D < c.w.heap.size:=by
  rcases zak D c.w.heap.size with e | e
  ·exact e
  ·rw [zan e] at h4;simp at h4
 rw [hf.keep D hlt ?_ ?_,h4]
 ·rintro ⟨id,nl,sz,es,g1,g2,g3⟩;obtain ⟨cells,elem,g4,_⟩:=hr.hr.back id nl sz es g1 g2;rw [g3,h4] at g4;simp at g4
 ·rintro ⟨id,o,g1,g2,g3⟩;obtain ⟨wo,g4,g5⟩:=hr.x.xr id o g1 g2;rw [g3,h4] at g4;injection g4 with g4
  exact g5.HD _ g4.symm
structure FR (lo:Nat->Prop) (F:Fo) (G:Nat->List AV) (c:Ctx) (s:St) (a:Act):Prop where
 sr:SR F c
 tr:TR c s.tmps a.tmps
 hH:c.H=s.H
 df:Marks lo c.w a.defers
 gl:gU c G
theorem gU.oQ {G:Nat->List AV} (hG:∀ g,AV.aR 0 (G g)=true) {d:Ctx} (h:gU c G) {n:Nat} (hf:cK n c d):gU d G:=
 fun g=>hf.vals _ _ (by simp only [AV.bD]) (h g)
theorem TR.set {t:List AV} {ts:Array Value} (h:TR c t ts) (i:Nat) {x:AV} (hx:∀ (hj:i < ts.size),V c x ts[i]):TR c (t.set i x) ts:=
 ⟨by simp [h.1],fun j hj hj'=>by
  rw [zbY];split
  ·rename_i e;subst e;exact hx hj'
  ·exact h.2 j (by simpa using hj) hj'⟩
theorem getD_some {t:List AV} {i:Nat} {x:AV} (h:t.getD i .any=x) (hx:x≠ .any):∃ hi:i < t.length,t[i]=x:=by
 rw [zbu] at h;by_cases hi:i < t.length
 ·rw [za1 hi,zaz] at h;exact ⟨hi,h⟩
 ·rw [zao (Nat.le_of_not_lt hi),Option.getD_none] at h;exact (hx h.symm).elim
theorem abl (h:SR F c) {id sz:Nat} {nl:Fl} {es:List (List AV)} (hid:c.H[id]?=some (.live nl sz es)) (hfree:nl.free=true):
 ∃ d:Ctx,d.w=c.w/\d.H=c.H.set id .dead/\SR F d/\(∀ x v,V c x v->V d x v)/\(∀ n,cK n c d)/\(¬(nl= .nil/\es=[])->¬ d.O (c.ι id)):=by
 have b8:=bn hid;let H':=c.H.set id .dead;have aL:∀ (i:Nat) bL br bt,H'[i]?=some (.live bL br bt)->i≠id/\c.H[i]?=some (.live bL br bt):=by
  intro i bL br bt hs;by_cases hi:i=id
  ·subst hi;simp [H',b8] at hs
  ·refine ⟨hi,?_⟩;rw [<-hs];simp only [H'];rw [za6 (fun q=>hi q.symm)]
 have hown:∀ b,bz H' c.ι b->bz c.H c.ι b/\(¬(nl= .nil/\es=[])->b≠c.ι id):=by
  rintro b ⟨i,bL,br,bt,h1,h2,h3⟩;obtain ⟨hne,Jx⟩:=aL _ _ _ _ h1;exact ⟨⟨i,bL,br,bt,Jx,h2,h3⟩,fun hbk he=>alone h hid hbk hfree hne Jx h2 (by rw [h3,he])⟩
 let d:Ctx:=⟨c.w,fun b=>F b\/bz H' c.ι b,c.ι,c.K,H'⟩;have bY:∀ i,Has c i->Has d i:=by
  rintro i ⟨h1,h2⟩;refine ⟨by simpa [d,H'] using h1,fun e=>?_⟩;by_cases hi:i=id
  ·subst hi;simp [d,H',b8] at e
  ·refine h2 ?_;rw [<-e];simp only [d,H'];rw [za6 (fun q=>hi q.symm)]
 have hsp:∀ j o,d.H[j]?=some o->o.sp=true->c.H[j]?=some o/\d.ι j=c.ι j/\d.w.heap[c.ι j]?=c.w.heap[c.ι j]?:=by
  intro j o h1 h2;refine ⟨?_,rfl,rfl⟩;by_cases hj:j=id
  ·subst hj;simp [d,H',b8] at h1;subst h1;simp [Obj.sp] at h2
  ·rw [<-h1];simp only [d,H'];rw [za6 (fun q=>hj q.symm)]
 have hV:∀ x v,V c x v->V d x v:=by
  intro x v hv;refine V.mono ?_ ?_ ?_ ?_ (fun i b hs=>hs.keep bY hsp) hv
  ·intro b hnb _;refine ⟨rfl,?_⟩;rintro (hf | ho)
   ·exact hnb ((h.hO b).2 (.inl hf))
   ·exact hnb ((h.hO b).2 (.inr (hown b ho).1))
  ·rintro i e o l v ⟨g1,g2,g3⟩;exact ⟨bY i g1,g2,fun nl sz es hs=>g3 nl sz es (aL _ _ _ _ hs).2⟩
  ·rintro i e o l v ⟨g1,q,g2,g3,g4⟩;exact ⟨bY i g1,q,g2,g3,fun nl sz es hs=>g4 nl sz es (aL _ _ _ _ hs).2⟩
  ·rintro i e o l k v ⟨g1,q,g2,g3,g4⟩;exact ⟨bY i g1,q,g2,g3,fun nl sz es hs=>g4 nl sz es (aL _ _ _ _ hs).2⟩
 have aU:∀ n,cK n c d:=fun n=>⟨za7 _,fun _ _ _ _=>rfl,fun x v _ hv=>hV x v hv,fun b ho=> .inl (hown b ho).1,fun hn=>by simpa [d,H'] using hn,cZ.refl _,fun b hb=> .inl (cD hsp hb)⟩
 have KO:SR F d:=by
  refine ⟨⟨?_,?_⟩,fun b=>Iff.rfl,h.hF,fun b ho=>h.eF b (hown b ho).1,h.x.keep hsp hV⟩
  ·intro i bL br bt hs hbk;obtain ⟨hne,hs'⟩:=aL _ _ _ _ hs;obtain ⟨cells,elem,g1,g2,g3,g4,g5⟩:=h.hr.back i bL br bt hs' hbk;refine ⟨cells,elem,g1,g2,g3,.inr ⟨i,bL,br,bt,hs,hbk,rfl⟩,fun q hq=>⟨(g5 q hq).1,fun j hj=>?_⟩⟩;obtain ⟨u,hu,hv⟩:=(g5 q hq).2 j hj;exact ⟨u,hu,hV _ _ hv⟩
  ·intro i i' _ _ _ _ _ _ h1 h2 h3 h4 he;exact h.hr.inj i i' _ _ _ _ _ _ (aL _ _ _ _ h1).2 h2 (aL _ _ _ _ h3).2 h4 he
 refine ⟨d,rfl,rfl,KO,hV,aU,fun hbk=>?_⟩;rintro (hf | ho)
 ·exact h.eF _ ⟨id,nl,sz,es,hid,hbk,rfl⟩ hf
 ·exact (hown _ ho).2 hbk rfl
theorem GK {G:Nat->List AV} (hG:∀ g,AV.aR 0 (G g)=true) {s:St} {a:Act} (h:FR lo F G c s a) {id sz:Nat} {nl:Fl} {es:List (List AV)} (K8:s.H[id]?=some (.live nl sz es)) (hfree:nl.free=true):
 ∃ d:Ctx,d.w=c.w/\FR lo F G d ⟨s.tmps,s.H.set id .dead⟩ a/\(∀ n,cK n c d):=by
 rw [<-h.hH] at K8;obtain ⟨d,h1,h2,h3,h4,h5,_⟩:=abl h.sr K8 hfree;exact ⟨d,h1,⟨h3,h.tr.hY h4,by rw [h2,h.hH],by rw [h1];exact h.df,h.gl.oQ hG (h5 0)⟩,h5⟩
theorem tB {G:Nat->List AV} (hG:∀ g,AV.aR 0 (G g)=true) {s s':St} {a:Act} (h:FR lo F G c s a) {t:Nat} (hf:ko t s=some s'):
 ∃ d:Ctx,d.w=c.w/\FR lo F G d s' a/\(∀ n,cK n c d)/\d.ι=c.ι:=by
 unfold ko at hf;split at hf
 case h_2=>injection hf with hf;subst hf;exact ⟨c,rfl,h,fun n=>cK.refl n c,rfl⟩
 rename_i id ext off len nB;split at hf
 case h_2=>simp at hf
 rename_i sz es hl;obtain ⟨nl,hid⟩:=bB hl;split at hf
 case isFalse=>simp at hf
 rename_i hc;obtain ⟨eU,JJ,hfree⟩:=hc;injection hf with hf;subst hf
 rw [<-h.hH] at hid;have b8:=bn hid;have qC:cy s.H id=nl:=by rw [<-h.hH];simp [cy,hid]
 rw [qC];rw [qC] at hfree;obtain ⟨Fw,hte⟩:=getD_some nB (by simp);let H':=c.H.set id .dead;have aL:∀ (i:Nat) bL br bt,H'[i]?=some (.live bL br bt)->i≠id/\c.H[i]?=some (.live bL br bt):=by
  intro i bL br bt hs;by_cases hi:i=id
  ·subst hi;simp [H',b8] at hs
  ·refine ⟨hi,?_⟩;rw [<-hs];simp only [H'];rw [za6 (fun q=>hi q.symm)]
 have hown:∀ b,bz H' c.ι b->bz c.H c.ι b/\(¬(nl= .nil/\es=[])->b≠c.ι id):=by
  rintro b ⟨i,bL,br,bt,h1,h2,h3⟩;obtain ⟨hne,Jx⟩:=aL _ _ _ _ h1;exact ⟨⟨i,bL,br,bt,Jx,h2,h3⟩,fun hbk he=>alone h.sr hid hbk hfree hne Jx h2 (by rw [h3,he])⟩
 let d:Ctx:=⟨c.w,fun b=>F b\/bz H' c.ι b,c.ι,c.K,H'⟩;have bY:∀ i,Has c i->Has d i:=by
  rintro i ⟨h1,h2⟩;refine ⟨by simpa [d,H'] using h1,fun e=>?_⟩;by_cases hi:i=id
  ·subst hi;simp [d,H',b8] at e
  ·refine h2 ?_;rw [<-e];simp only [d,H'];rw [za6 (fun q=>hi q.symm)]
 have hsp:∀ j o,d.H[j]?=some o->o.sp=true->c.H[j]?=some o/\d.ι j=c.ι j/\d.w.heap[c.ι j]?=c.w.heap[c.ι j]?:=by
  intro j o h1 h2;refine ⟨?_,rfl,rfl⟩;by_cases hj:j=id
  ·subst hj;simp [d,H',b8] at h1;subst h1;simp [Obj.sp] at h2
  ·rw [<-h1];simp only [d,H'];rw [za6 (fun q=>hj q.symm)]
 have hV:∀ x v,V c x v->V d x v:=by
  intro x v hv;refine V.mono ?_ ?_ ?_ ?_ (fun i b hs=>hs.keep bY hsp) hv
  ·intro b hnb _;refine ⟨rfl,?_⟩;rintro (hf | ho)
   ·exact hnb ((h.sr.hO b).2 (.inl hf))
   ·exact hnb ((h.sr.hO b).2 (.inr (hown b ho).1))
  ·rintro i e o l v ⟨g1,g2,g3⟩;exact ⟨bY i g1,g2,fun nl sz es hs=>g3 nl sz es (aL _ _ _ _ hs).2⟩
  ·rintro i e o l v ⟨g1,q,g2,g3,g4⟩;exact ⟨bY i g1,q,g2,g3,fun nl sz es hs=>g4 nl sz es (aL _ _ _ _ hs).2⟩
  ·rintro i e o l k v ⟨g1,q,g2,g3,g4⟩;exact ⟨bY i g1,q,g2,g3,fun nl sz es hs=>g4 nl sz es (aL _ _ _ _ hs).2⟩
 have aU:∀ n,cK n c d:=fun n=>⟨za7 _,fun _ _ _ _=>rfl,fun x v _ hv=>hV x v hv,fun b ho=> .inl (hown b ho).1,fun hn=>by simpa [d,H'] using hn,cZ.refl _,fun b hb=> .inl (cD hsp hb)⟩
 have KO:SR F d:=by
  refine ⟨⟨?_,?_⟩,fun b=>Iff.rfl,h.sr.hF,fun b ho=>h.sr.eF b (hown b ho).1,h.sr.x.keep hsp hV⟩
  ·intro i bL br bt hs hbk;obtain ⟨hne,hs'⟩:=aL _ _ _ _ hs;obtain ⟨cells,elem,g1,g2,g3,g4,g5⟩:=h.sr.hr.back i bL br bt hs' hbk;refine ⟨cells,elem,g1,g2,g3,.inr ⟨i,bL,br,bt,hs,hbk,rfl⟩,fun q hq=>⟨(g5 q hq).1,fun j hj=>?_⟩⟩;obtain ⟨u,hu,hv⟩:=(g5 q hq).2 j hj;exact ⟨u,hu,hV _ _ hv⟩
  ·intro i i' _ _ _ _ _ _ h1 h2 h3 h4 he;exact h.sr.hr.inj i i' _ _ _ _ _ _ (aL _ _ _ _ h1).2 h2 (aL _ _ _ _ h3).2 h4 he
 refine ⟨d,rfl,⟨KO,TR.set (h.tr.hY hV) t (fun hj=>?_),by simp [d,H',h.hH],h.df,h.gl.oQ hG (aU 0)⟩,aU,rfl⟩;have hv:=h.tr.2 t Fw hj;rw [hte] at hv;generalize a.tmps[t]=tv at hv
 cases hv with
 | own _ _ _ _ _ how=>
  obtain ⟨_,_,how⟩:=how;obtain ⟨hle,how⟩:=how _ _ _ hid;obtain ⟨X1,how⟩:=how eU;rcases how with ⟨q1,q2,rfl⟩ | ⟨hbk,cap,rfl,hcap⟩
  ·subst q2;simp only [sF,List.drop_nil,List.take_nil];exact .CB
  ·obtain ⟨cells,elem,g1,g2,g3,g4,g5⟩:=h.sr.hr.back id nl sz es hid hbk;have hro:sF nl es ((es.drop off).take len)= .ro ((es.drop off).take len):=rfl;rw [hro];have hlen:((es.drop off).take len).length=len:=by simp;omega
   conv=>rhs;rw [<-hlen]
   refine .ro _ _ cap sz (fun i j=>(cells[(off+i)*sz+j]?).getD undef) (fun i j hi hj=>cJ (iu JJ i hi) j hj) (by omega) (fun _ _=>⟨rfl,?_⟩) (fun i hi=>?_) (fun i j hi hj=>?_) (fun i j hi hj=>?_)
   ·rintro (hf | ho)
    ·exact h.sr.eF _ ⟨id,nl,sz,es,hid,hbk,rfl⟩ hf
    ·exact (hown _ ho).2 hbk rfl
   ·simp only [zar,zas];exact (g5 _ _).1
   ·simp only [zar,zas] at hj;obtain ⟨u,hu,_⟩:=(g5 (off+i) (by omega)).2 j hj;have e1:off*sz+i*sz=(off+i)*sz:=by rw [zaC]
    simp only [d,World.cell?,g1,e1,hu];simp
   ·simp only [zar,zas] at hj ⊢;obtain ⟨u,hu,hv⟩:=(g5 (off+i) (by omega)).2 j hj;rw [hu];exact hV _ _ hv
theorem GF {G:Nat->List AV} (hG:∀ g,AV.aR 0 (G g)=true) {s s':St} {a:Act} (h:FR lo F G c s a) {t:Nat} (hf:uk t s=some s'):
 ∃ d:Ctx,d.w=c.w/\FR lo F G d s' a/\∀ n,cK n c d:=by
 unfold uk at hf;split at hf
 case h_2=>simp at hf
 rename_i id nB;split at hf
 case h_2=>simp at hf
 rename_i sz cs hid;split at hf
 case isFalse=>simp at hf
 rename_i JJ;injection hf with hf;subst hf
 rw [<-h.hH] at hid;have b8:=bn hid;obtain ⟨Fw,hte⟩:=getD_some nB (by simp);have hbk:¬((Fl.norm=Fl.nil)/\[cs]=[]):=by simp
 let H':=c.H.set id .dead;have aL:∀ (i:Nat) bL br bt,H'[i]?=some (.live bL br bt)->i≠id/\c.H[i]?=some (.live bL br bt):=by
  intro i bL br bt hs;by_cases hi:i=id
  ·subst hi;simp [H',b8] at hs
  ·refine ⟨hi,?_⟩;rw [<-hs];simp only [H'];rw [za6 (fun q=>hi q.symm)]
 have hown:∀ b,bz H' c.ι b->bz c.H c.ι b/\b≠c.ι id:=by
  rintro b ⟨i,bL,br,bt,h1,h2,h3⟩;obtain ⟨hne,Jx⟩:=aL _ _ _ _ h1;exact ⟨⟨i,bL,br,bt,Jx,h2,h3⟩,fun he=>alone h.sr hid hbk rfl hne Jx h2 (by rw [h3,he])⟩
 let d:Ctx:=⟨c.w,fun b=>F b\/bz H' c.ι b,c.ι,c.K,H'⟩;have bY:∀ i,Has c i->Has d i:=by
  rintro i ⟨h1,h2⟩;refine ⟨by simpa [d,H'] using h1,fun e=>?_⟩;by_cases hi:i=id
  ·subst hi;simp [d,H',b8] at e
  ·refine h2 ?_;rw [<-e];simp only [d,H'];rw [za6 (fun q=>hi q.symm)]
 have hsp:∀ j o,d.H[j]?=some o->o.sp=true->c.H[j]?=some o/\d.ι j=c.ι j/\d.w.heap[c.ι j]?=c.w.heap[c.ι j]?:=by
  intro j o h1 h2;refine ⟨?_,rfl,rfl⟩;by_cases hj:j=id
  ·subst hj;simp [d,H',b8] at h1;subst h1;simp [Obj.sp] at h2
  ·rw [<-h1];simp only [d,H'];rw [za6 (fun q=>hj q.symm)]
 have hV:∀ x v,V c x v->V d x v:=by
  intro x v hv;refine V.mono ?_ ?_ ?_ ?_ (fun i b hs=>hs.keep bY hsp) hv
  ·intro b hnb _;refine ⟨rfl,?_⟩;rintro (hf | ho)
   ·exact hnb ((h.sr.hO b).2 (.inl hf))
   ·exact hnb ((h.sr.hO b).2 (.inr (hown b ho).1))
  ·rintro i e o l v ⟨g1,g2,g3⟩;exact ⟨bY i g1,g2,fun nl sz es hs=>g3 nl sz es (aL _ _ _ _ hs).2⟩
  ·rintro i e o l v ⟨g1,q,g2,g3,g4⟩;exact ⟨bY i g1,q,g2,g3,fun nl sz es hs=>g4 nl sz es (aL _ _ _ _ hs).2⟩
  ·rintro i e o l k v ⟨g1,q,g2,g3,g4⟩;exact ⟨bY i g1,q,g2,g3,fun nl sz es hs=>g4 nl sz es (aL _ _ _ _ hs).2⟩
 have aU:∀ n,cK n c d:=fun n=>⟨za7 _,fun _ _ _ _=>rfl,fun x v _ hv=>hV x v hv,fun b ho=> .inl (hown b ho).1,fun hn=>by simpa [d,H'] using hn,cZ.refl _,fun b hb=> .inl (cD hsp hb)⟩
 have KO:SR F d:=by
  refine ⟨⟨?_,?_⟩,fun b=>Iff.rfl,h.sr.hF,fun b ho=>h.sr.eF b (hown b ho).1,h.sr.x.keep hsp hV⟩
  ·intro i bL br bt hs hbk;obtain ⟨hne,hs'⟩:=aL _ _ _ _ hs;obtain ⟨cells,elem,g1,g2,g3,g4,g5⟩:=h.sr.hr.back i bL br bt hs' hbk;refine ⟨cells,elem,g1,g2,g3,.inr ⟨i,bL,br,bt,hs,hbk,rfl⟩,fun q hq=>⟨(g5 q hq).1,fun j hj=>?_⟩⟩;obtain ⟨u,hu,hv⟩:=(g5 q hq).2 j hj;exact ⟨u,hu,hV _ _ hv⟩
  ·intro i i' _ _ _ _ _ _ h1 h2 h3 h4 he;exact h.sr.hr.inj i i' _ _ _ _ _ _ (aL _ _ _ _ h1).2 h2 (aL _ _ _ _ h3).2 h4 he
 refine ⟨d,rfl,⟨KO,TR.set (h.tr.hY hV) t (fun hj=>?_),by simp [d,H',h.hH],h.df,h.gl.oQ hG (aU 0)⟩,aU⟩;have hv:=h.tr.2 t Fw hj;rw [hte] at hv;generalize a.tmps[t]=tv at hv
 cases hv with
 | aJ _ _ _ _ _ KS=>
  obtain ⟨_,q,rfl,afc,KS⟩:=KS;have hq:=(KS _ _ _ hid).2 (by simp);obtain ⟨vs,g1,g2,g3⟩:=j6 h.sr.hr hid (e:=0) (by simp);simp only [zaF] at g1 g2 g3;subst hq;refine .bR cs _ vs (fun j hj=>cJ JJ j hj) (fun _=>⟨rfl,?_⟩) (fun j hj=>?_) (fun j hj=>hV _ _ (g3 j hj))
  ·rintro (hf | ho)
   ·exact h.sr.eF _ ⟨id,.norm,sz,[cs],hid,hbk,rfl⟩ hf
   ·exact (hown _ ho).2 rfl
  ·simpa using g2 j hj
theorem z4 {G:Nat->List AV} (h:SR F c) (sz:Nat):
 ∃ d:Ctx,d.w=c.w/\d.H=c.H++[.live .nil sz []]/\SR F d/\(∀ x v,V c x v->V d x v)/\(∀ n,cK n c d)/\V d (.own c.H.length 0 0 0) (.slice none 0 0)/\(gU c G->gU d G):=by
 let H':=c.H++[.live .nil sz []];have aL:∀ (i:Nat) bL br bt,H'[i]?=some (.live bL br bt)->(c.H[i]?=some (.live bL br bt))\/(i=c.H.length/\bL= .nil/\bt=[]):=by
  intro i bL br bt hs;rcases zak i c.H.length with e | e
  ·left;simp only [H'] at hs;rw [zai e] at hs;exact hs
  ·right;simp only [H'] at hs;rw [zaj e] at hs;have hi:i - c.H.length=0:=by
    rcases Nat.eq_zero_or_pos (i - c.H.length) with q | q
    ·exact q
    ·rw [zao (by simp;omega)] at hs;simp at hs
   rw [hi] at hs;simp at hs;exact ⟨by omega,hs.1.symm,hs.2.2⟩
 have hown:∀ b,bz H' c.ι b->bz c.H c.ι b:=by
  rintro b ⟨i,bL,br,bt,h1,h2,h3⟩;rcases aL _ _ _ _ h1 with e | ⟨_,e1,e2⟩
  ·exact ⟨i,bL,br,bt,e,h2,h3⟩
  ·exact (h2 ⟨e1,e2⟩).elim
 let d:Ctx:=⟨c.w,fun b=>F b\/bz H' c.ι b,c.ι,c.K,H'⟩;have bY:∀ i,Has c i->Has d i:=by
  rintro i ⟨h1,h2⟩;refine ⟨by simp [d,H'];omega,fun e=>h2 ?_⟩;rw [<-e];simp only [d,H'];rw [zai h1]
 have hsp:∀ j o,d.H[j]?=some o->o.sp=true->c.H[j]?=some o/\d.ι j=c.ι j/\d.w.heap[c.ι j]?=c.w.heap[c.ι j]?:=by
  intro j o h1 h2;refine ⟨?_,rfl,rfl⟩;rcases zak j c.H.length with e | e
  ·simp only [d,H'] at h1;rw [zai e] at h1;exact h1
  ·exfalso;simp only [d,H'] at h1;rw [zaj e] at h1;have hm:=List.mem_of_getElem? h1;simp at hm;subst hm;simp [Obj.sp] at h2
 have hV:∀ x v,V c x v->V d x v:=by
  intro x v hv;refine V.mono ?_ ?_ ?_ ?_ (fun i b hs=>hs.keep bY hsp) hv
  ·intro b hnb _;refine ⟨rfl,?_⟩;rintro (hf | ho)
   ·exact hnb ((h.hO b).2 (.inl hf))
   ·exact hnb ((h.hO b).2 (.inr (hown b ho)))
  ·rintro i e o l v ⟨g1,g2,g3⟩;refine ⟨bY i g1,g2,fun nl sz es hs=>?_⟩;rcases aL _ _ _ _ hs with q | ⟨q,_⟩
   ·exact g3 nl sz es q
   ·exact absurd g1.1 (by omega)
  ·rintro i e o l v ⟨g1,q,g2,g3,g4⟩;refine ⟨bY i g1,q,g2,g3,fun nl sz es hs=>?_⟩;rcases aL _ _ _ _ hs with q | ⟨q,_⟩
   ·exact g4 nl sz es q
   ·exact absurd g1.1 (by omega)
  ·rintro i e o l k v ⟨g1,q,g2,g3,g4⟩;refine ⟨bY i g1,q,g2,g3,fun nl sz es hs=>?_⟩;rcases aL _ _ _ _ hs with q | ⟨q,_⟩
   ·exact g4 nl sz es q
   ·exact absurd g1.1 (by omega)
 refine ⟨d,rfl,rfl,⟨⟨?_,?_⟩,fun b=>Iff.rfl,h.hF,fun b ho=>h.eF b (hown b ho),h.x.keep hsp hV⟩,hV,
  fun n=>⟨za7 _,fun _ _ _ _=>rfl,fun x v _ hv=>hV x v hv,fun b ho=> .inl (hown b ho),fun hn=>by simp [d,H'];omega,cZ.refl _,fun b hb=> .inl (cD hsp hb)⟩,?_,fun hg g=>hV _ _ (hg g)⟩
 ·intro i bL br bt hs hbk;rcases aL _ _ _ _ hs with hs' | ⟨_,q1,q2⟩
  ·obtain ⟨cells,elem,g1,g2,g3,g4,g5⟩:=h.hr.back i bL br bt hs' hbk;refine ⟨cells,elem,g1,g2,g3,.inr ⟨i,bL,br,bt,hs,hbk,rfl⟩,fun q hq=>⟨(g5 q hq).1,fun j hj=>?_⟩⟩;obtain ⟨u,hu,hv⟩:=(g5 q hq).2 j hj;exact ⟨u,hu,hV _ _ hv⟩
  ·exact (hbk ⟨q1,q2⟩).elim
 ·intro i i' _ _ _ _ _ _ h1 h2 h3 h4 he;rcases aL _ _ _ _ h1 with e | ⟨_,e1,e2⟩
  ·rcases aL _ _ _ _ h3 with e' | ⟨_,UA,e2'⟩
   ·exact h.hr.inj i i' _ _ _ _ _ _ e h2 e' h4 he
   ·exact (h4 ⟨UA,e2'⟩).elim
  ·exact (h2 ⟨e1,e2⟩).elim
 ·refine .own _ _ _ _ _ ⟨by simp [Has,d,H'],⟨_,_,rfl⟩,fun bL br bt hs=>?_⟩;have hs':H'[c.H.length]?=some (.live bL br bt):=hs;simp [H'] at hs';obtain ⟨rfl,rfl,rfl⟩:=hs';exact ⟨by simp,fun _=>⟨by simp,.inl ⟨rfl,rfl,rfl⟩⟩⟩
theorem Ka {G:Nat->List AV} (h:SR F c) (k:Nat):
 ∃ d:Ctx,d.w=c.w/\d.H=c.H++List.replicate k .ew/\SR F d/\(∀ x v,V c x v->V d x v)/\(∀ n,cK n c d)/\(gU c G->gU d G):=by
 let H':=c.H++List.replicate k .ew;have aL:∀ (i:Nat) bL br bt,H'[i]?=some (.live bL br bt)->(c.H[i]?=some (.live bL br bt)):=by
  intro i bL br bt hs;rcases zak i c.H.length with e | e
  ·simp only [H'] at hs;rw [zai e] at hs;exact hs
  ·exfalso;simp only [H'] at hs;rw [zaj e,zbO] at hs;split at hs<;>simp at hs
 have hown:∀ b,bz H' c.ι b->bz c.H c.ι b:=by
  rintro b ⟨i,bL,br,bt,h1,h2,h3⟩;exact ⟨i,bL,br,bt,aL _ _ _ _ h1,h2,h3⟩
 let d:Ctx:=⟨c.w,fun b=>F b\/bz H' c.ι b,c.ι,c.K,H'⟩;have bY:∀ i,Has c i->Has d i:=by
  rintro i ⟨h1,h2⟩;refine ⟨by simp [d,H'];omega,fun e=>h2 ?_⟩;rw [<-e];simp only [d,H'];rw [zai h1]
 have hsp:∀ j o,d.H[j]?=some o->o.sp=true->c.H[j]?=some o/\d.ι j=c.ι j/\d.w.heap[c.ι j]?=c.w.heap[c.ι j]?:=by
  intro j o h1 h2;refine ⟨?_,rfl,rfl⟩;rcases zak j c.H.length with e | e
  ·simp only [d,H'] at h1;rw [zai e] at h1;exact h1
  ·exfalso;simp only [d,H'] at h1;rw [zaj e] at h1;have hm:=List.mem_of_getElem? h1;rw [List.eq_of_mem_replicate hm] at h2;simp [Obj.sp] at h2
 have hV:∀ x v,V c x v->V d x v:=by
  intro x v hv;refine V.mono ?_ ?_ ?_ ?_ (fun i b hs=>hs.keep bY hsp) hv
  ·intro b hnb _;refine ⟨rfl,?_⟩;rintro (hf | ho)
   ·exact hnb ((h.hO b).2 (.inl hf))
   ·exact hnb ((h.hO b).2 (.inr (hown b ho)))
  ·rintro i e o l v ⟨g1,g2,g3⟩;exact ⟨bY i g1,g2,fun nl sz es hs=>g3 nl sz es (aL _ _ _ _ hs)⟩
  ·rintro i e o l v ⟨g1,q,g2,g3,g4⟩;exact ⟨bY i g1,q,g2,g3,fun nl sz es hs=>g4 nl sz es (aL _ _ _ _ hs)⟩
  ·rintro i e o l k v ⟨g1,q,g2,g3,g4⟩;exact ⟨bY i g1,q,g2,g3,fun nl sz es hs=>g4 nl sz es (aL _ _ _ _ hs)⟩
 refine ⟨d,rfl,rfl,⟨⟨?_,?_⟩,fun b=>Iff.rfl,h.hF,fun b ho=>h.eF b (hown b ho),h.x.keep hsp hV⟩,hV,
  fun n=>⟨za7 _,fun _ _ _ _=>rfl,fun x v _ hv=>hV x v hv,fun b ho=> .inl (hown b ho),fun hn=>by simp [d,H'];omega,cZ.refl _,fun b hb=> .inl (cD hsp hb)⟩,fun hg g=>hV _ _ (hg g)⟩
 ·intro i bL br bt hs hbk;have hs':=aL _ _ _ _ hs;obtain ⟨cells,elem,g1,g2,g3,g4,g5⟩:=h.hr.back i bL br bt hs' hbk;refine ⟨cells,elem,g1,g2,g3,.inr ⟨i,bL,br,bt,hs,hbk,rfl⟩,fun q hq=>⟨(g5 q hq).1,fun j hj=>?_⟩⟩;obtain ⟨u,hu,hv⟩:=(g5 q hq).2 j hj;exact ⟨u,hu,hV _ _ hv⟩
 ·intro i i' _ _ _ _ _ _ h1 h2 h3 h4 he;exact h.hr.inj i i' _ _ _ _ _ _ (aL _ _ _ _ h1) h2 (aL _ _ _ _ h3) h4 he
end
end Go.Am
