/- Parts of my machine and its laws, joined: AmO AmP. No condition. -/
import Derived.Test.YtafgdbaekppjcaaGreatDoorAmL
set_option linter.unusedSectionVars false
set_option linter.unusedVariables false
set_option linter.unusedSimpArgs false
section
namespace Go.Am
def bz (H:List Obj) (ι:Nat->Nat) (b:Nat):Prop:=∃ id nl sz es,H[id]?=some (.live nl sz es)/\¬(nl= .nil/\es=[])/\ι id=b
def wO (H:List Obj) (ι:Nat->Nat) (b:Nat):Prop:=∃ id o,H[id]?=some o/\o.sp=true/\ι id=b
structure Fo where
 b:Nat->Prop
 cr:RC->Code->Prop
instance:CoeFun Fo (fun _=>Nat->Prop):=⟨Fo.b⟩
def XO:Ex->Option Code
 | .normal=>none
 | .ret=>some .ret
 | .exit i=>some (.exit i)
def LsR:Ls->LoopState->Option Code->Prop
 | .ready,s,p=>s= .ready/\p=none
 | .busy,s,_=>s= .busy
 | .done e,s,p=>s= .done/\p=XO e/\e≠ .normal
def Fi (cr:RC->Code->Prop) (c:Ctx):Obj->Go.Obj->Prop
 | .mp es,wo=>∃ (l:Array MapEntry) (k:Nat),wo= .map l k/\l.size=es.length/\∀ i (hi:i < es.length) (hj:i < l.size),V c es[i].1 l[i].key/\V c es[i].2 l[i].val
 | .it s pos,wo=>wo= .stringIter ⟨s.toArray⟩ pos
 | .lp st t ps b6 body,wo=>∃ r:Loop,wo= .loop r/\TR c t r.tmps/\r.params.toList=ps/\cr b6 r.assign/\cr body r.body/\LsR st r.state r.pending
 | _,_=>False
theorem Fi.ri {cr:RC->Code->Prop} {c:Ctx} {o:Obj} {wo:Go.Obj} (h:Fi cr c o wo):∀ cells elem q,wo≠Go.Obj.cells cells elem q:=by
 intro cells elem q e;subst e
 cases o with
 | mp es=>obtain ⟨l,k,e,_⟩:=h;cases e
 | it s pos=>cases h
 | lp st t ps b6 body=>obtain ⟨r,e,_⟩:=h;cases e
 | _=>exact h
theorem Fi.HD {cr:RC->Code->Prop} {c:Ctx} {o:Obj} {wo:Go.Obj} (h:Fi cr c o wo):∀ x,wo≠Go.Obj.deferred x:=by
 intro x e;subst e
 cases o with
 | mp es=>obtain ⟨l,k,e,_⟩:=h;cases e
 | it s pos=>cases h
 | lp st t ps b6 body=>obtain ⟨r,e,_⟩:=h;cases e
 | _=>exact h
theorem xF {n:Nat}:∀ {es:List (AV×AV)},AV.yY n es=true->∀ i (hi:i < es.length),es[i].1.bD n=true/\es[i].2.bD n=true
 | [],_,i,hi=>by simp at hi
 | x::es,h,i,hi=>by
  obtain ⟨a,b⟩:=x;simp only [AV.yY,za0] at h
  cases i with
  | zero=>exact ⟨h.1,h.2.1⟩
  | succ i=>simpa using xF h.2.2 i (by simpa using hi)
theorem Fi.mono {cr:RC->Code->Prop} {c d:Ctx} {o:Obj} {wo:Go.Obj} (h:Fi cr c o wo) (hv:∀ x v,V c x v->V d x v):Fi cr d o wo:=by
 cases o with
 | mp es=>obtain ⟨l,k,e,h1,h2⟩:=h;exact ⟨l,k,e,h1,fun i hi hj=>⟨hv _ _ (h2 i hi hj).1,hv _ _ (h2 i hi hj).2⟩⟩
 | it s pos=>exact h
 | lp st t ps b6 body=>obtain ⟨r,e,h1,h2⟩:=h;exact ⟨r,e,⟨h1.1,fun i hi hj=>hv _ _ (h1.2 i hi hj)⟩,h2⟩
 | _=>exact h
structure XR (cr:RC->Code->Prop) (c:Ctx):Prop where
 xr:∀ id o,c.H[id]?=some o->o.sp=true->∃ wo,c.w.heap[c.ι id]?=some wo/\Fi cr c o wo
 xi:∀ id id' o o',c.H[id]?=some o->o.sp=true->c.H[id']?=some o'->o'.sp=true->c.ι id=c.ι id'->id=id'
theorem XR.nil {cr:RC->Code->Prop} {c:Ctx} (h:c.H=[]):XR cr c:=⟨fun id o h1=>by rw [h] at h1;simp at h1,fun id _ o _ h1=>by rw [h] at h1;simp at h1⟩
theorem XR.LQ {cr:RC->Code->Prop} {c d:Ctx} (h:XR cr c) (hH:∀ (id:Nat) (o:Obj),d.H[id]?=some o->o.sp=true->c.H[id]?=some o/\d.ι id=c.ι id/\d.w.heap[c.ι id]?=c.w.heap[c.ι id]?)
 (hV:∀ (id:Nat) (o:Obj) (wo:Go.Obj),d.H[id]?=some o->o.sp=true->Fi cr c o wo->Fi cr d o wo):XR cr d:=by
 refine ⟨fun id o h1 h2=>?_,fun id id' o o' h1 h2 h3 h4 he=>?_⟩
 ·obtain ⟨e1,e2,e3⟩:=hH id o h1 h2;obtain ⟨wo,g1,g2⟩:=h.xr id o e1 h2;exact ⟨wo,by rw [e2,e3];exact g1,hV id o wo h1 h2 g2⟩
 ·obtain ⟨e1,e2,_⟩:=hH id o h1 h2;obtain ⟨e3,e4,_⟩:=hH id' o' h3 h4;exact h.xi id id' o o' e1 h2 e3 h4 (by rw [<-e2,<-e4];exact he)
theorem XR.keep {cr:RC->Code->Prop} {c d:Ctx} (h:XR cr c) (hH:∀ (id:Nat) (o:Obj),d.H[id]?=some o->o.sp=true->c.H[id]?=some o/\d.ι id=c.ι id/\d.w.heap[c.ι id]?=c.w.heap[c.ι id]?)
 (hV:∀ x v,V c x v->V d x v):XR cr d:=h.LQ hH fun _ _ _ _ _ hs=>hs.mono hV
theorem cD {c d:Ctx} (hH:∀ (id:Nat) (o:Obj),d.H[id]?=some o->o.sp=true->c.H[id]?=some o/\d.ι id=c.ι id/\d.w.heap[c.ι id]?=c.w.heap[c.ι id]?) {b:Nat} (h:wO d.H d.ι b):wO c.H c.ι b:=by
 obtain ⟨id,o,h1,h2,h3⟩:=h;obtain ⟨e1,e2,_⟩:=hH id o h1 h2;exact ⟨id,o,e1,h2,by rw [<-e2];exact h3⟩
theorem SV.keep {c d:Ctx} (bY:∀ i,Has c i->Has d i) (hH:∀ (id:Nat) (o:Obj),d.H[id]?=some o->o.sp=true->c.H[id]?=some o/\d.ι id=c.ι id/\d.w.heap[c.ι id]?=c.w.heap[c.ι id]?) {id b:Nat} (h:SV c id b):SV d id b:=
 ⟨bY id h.1,fun o h1 h2=>by obtain ⟨e1,e2,_⟩:=hH id o h1 h2;rw [e2];exact h.2 o e1 h2⟩
structure SR (F:Fo) (c:Ctx):Prop where
 hr:HR c
 hO:∀ b,c.O b↔(F b\/bz c.H c.ι b)
 hF:∀ b,F b->b < c.w.heap.size
 eF:∀ b,bz c.H c.ι b->¬ F b
 x:XR F.cr c
theorem SR.o8 {F:Fo} {c:Ctx} (h:SR F c) {id:Nat} {o:Obj} (h1:c.H[id]?=some o) (h2:o.sp=true):c.ι id < c.w.heap.size/\¬ bz c.H c.ι (c.ι id):=by
 obtain ⟨wo,g1,g2⟩:=h.x.xr id o h1 h2;refine ⟨?_,?_⟩
 ·rcases zak (c.ι id) c.w.heap.size with e | e
  ·exact e
  ·rw [zan e] at g1;simp at g1
 ·rintro ⟨j,nl,sz,es,q1,q2,q3⟩;obtain ⟨cells,elem,q4,_⟩:=h.hr.back j nl sz es q1 q2;rw [q3,g1] at q4;injection q4 with q4
  exact g2.ri _ _ _ q4
structure cZ (w w':World):Prop where
 os:w'.os=w.os
 tape:w'.tape=w.tape
 output:w'.output=w.output
 uc:∀ a,a.block < w.heap.size->w'.frozen? a=w.frozen? a
 size:w.heap.size<=w'.heap.size
theorem cZ.refl (w:World):cZ w w:=⟨rfl,rfl,rfl,fun _ _=>rfl,za7 _⟩
theorem cZ.trans {a b c:World} (h:cZ a b) (k:cZ b c):cZ a c:=⟨k.os.trans h.os,k.tape.trans h.tape,k.output.trans h.output,fun x hx=>(k.uc x (zb9 hx h.size)).trans (h.uc x hx),zaI h.size k.size⟩
theorem cZ.push (w:World) (cells:Array Value) (elem:TypeId) (k:Nat):cZ w { w with drawn:=k,heap:=w.heap.push (.cells cells elem) }:=by
 refine ⟨rfl,rfl,rfl,fun a _=>?_,by simp⟩;by_cases h:a.block=w.heap.size
 ·simp only [World.frozen?,zbx,h,if_true,zan (za7 _)];simp
 ·simp only [World.frozen?,zbx,h,if_false]
theorem cZ.setRow {w:World} {b:Nat} {old cells:Array Value} {elem:TypeId} {fr:Nat×Nat} (h:w.heap[b]?=some (.cells old elem fr)):cZ w (w.setRow b cells):=by
 refine ⟨rfl,rfl,rfl,fun a _=>?_,by simp⟩;by_cases ha:a.block=b
 ·simp only [World.frozen?,ha,setRow_heap w b old cells elem fr h,h]
 ·simp only [World.frozen?,setRow_other w b a.block cells ha]
structure cK (n:Nat) (c d:Ctx):Prop where
 size:c.w.heap.size<=d.w.heap.size
 keep:∀ b,b < c.w.heap.size->¬ bz c.H c.ι b->¬ wO c.H c.ι b->d.w.heap[b]?=c.w.heap[b]?
 vals:∀ x v,AV.bD n x=true->V c x v->V d x v
 owned:∀ b,bz d.H d.ι b->bz c.H c.ι b\/c.w.heap.size<=b
 len:n<=c.H.length->n<=d.H.length
 same:cZ c.w d.w
 jL:∀ b,wO d.H d.ι b->wO c.H c.ι b\/c.w.heap.size<=b
theorem cK.refl (n:Nat) (c:Ctx):cK n c c:=⟨za7 _,fun _ _ _ _=>rfl,fun _ _ _ h=>h,fun _ h=> .inl h,fun h=>h,cZ.refl _,fun _ h=> .inl h⟩
theorem cK.trans {n:Nat} {c d e:Ctx} (h:cK n c d) (h':cK n d e):cK n c e where
 size:=zaI h.size h'.size
 keep b hb hn hs:=by
  rw [h'.keep b (zb9 hb h.size) (fun ho=>(h.owned b ho).elim hn (fun hc=>by omega)) (fun ho=>(h.jL b ho).elim hs (fun hc=>by omega)),h.keep b hb hn hs]
 vals x v hb hV:=h'.vals x v hb (h.vals x v hb hV)
 owned b ho:=by
  rcases h'.owned b ho with h1 | h1
  ·exact h.owned b h1
  ·exact .inr (zaI h.size h1)
 len hn:=h'.len (h.len hn)
 same:=h.same.trans h'.same
 jL b ho:=by
  rcases h'.jL b ho with h1 | h1
  ·exact h.jL b h1
  ·exact .inr (zaI h.size h1)
theorem bn {H:List Obj} {id:Nat} {o:Obj} (h:H[id]?=some o):id < H.length:=by
 rcases zak id H.length with h1 | h1
 ·exact h1
 ·rw [zao h1] at h;simp at h
theorem wg {H:List Obj} {id:Nat} {nl:Fl} {sz:Nat} {es:List (List AV)} (h:H[id]?=some (.live nl sz es)):∀ o,H[id]?=some o->o.sp=false:=fun o ho=>by
 rw [h] at ho;injection ho with ho;subst ho;rfl
theorem Mm {H:List Obj} {id:Nat} (h:∀ o:Obj,o≠ .ew->H[id]?≠some o):∀ o,H[id]?=some o->o.sp=false:=fun o ho=>by
 cases o<;>first | rfl | exact (h _ (by simp) ho).elim
theorem Z4 {F:Fo} {c:Ctx} (h:SR F c) (id B k:Nat) (nl:Fl) (sz:Nat) (es':List (List AV)) (cells:Array Value) (elem:TypeId) (w':World) (H':List Obj)
 (hlen:c.H.length<=H'.length) (hid:H'[id]?=some (.live nl sz es')) (uY:∀ j,j≠id->H'[j]?=c.H[j]?\/(c.H.length<=j/\H'[j]?=none)) (Fy:c.H[id]?≠some .dead) (Jt:∀ o,c.H[id]?=some o->o.sp=false)
 (hold:∀ bL br bt,c.H[id]?=some (.live bL br bt)->bL=nl/\br=sz/\bt.length<=es'.length/\(bt.length=es'.length->¬(nl= .nil/\bt=[])/\B=c.ι id/\k=c.K id))
 (hb:¬(nl= .nil/\es'=[])) (hsame:cZ c.w w') (hw1:c.w.heap.size<=w'.heap.size) (KZ:∀ b,b < c.w.heap.size->b≠B->w'.heap[b]?=c.w.heap[b]?)
 (Ts:w'.heap[B]?=some (.cells cells elem (0,0)))
 (hB:c.w.heap.size<=B\/bz c.H c.ι B)
 (hsh:∀ j bL br bt,j≠id->c.H[j]?=some (.live bL br bt)->¬(bL= .nil/\bt=[])->c.ι j=B->
  bL.old=true/\nl.CC=true/\br=sz/\bt.length<=es'.length/\j < id/\∀ cl el,c.w.heap[B]?=some (.cells cl el (0,0))->cells.size=cl.size/\∀ q,q < bt.length*br->cells[q]?=cl[q]?)
 (hk:cells.size=k*sz) (hle:es'.length<=k)
 (hc:∀ i (hi:i < es'.length),es'[i].length=sz/\∀ j (hj:j < es'[i].length),∃ u,cells[i*sz+j]?=some u/\(V c es'[i][j] u\/∀ d:Ctx,d.w=w'->(∀ b,d.O b->c.O b\/b=B)->V d es'[i][j] u)):
 ∃ d:Ctx,d.w=w'/\d.H=H'/\SR F d/\(∀ x v,V c x v->V d x v)/\(∀ n,cK n c d)/\d.ι id=B/\d.K id=k:=by
 let ι':Nat->Nat:=fun j=>if j=id then B else c.ι j
 let K':Nat->Nat:=fun j=>if j=id then k else c.K j
 let d:Ctx:=⟨w',fun b=>F b\/bz H' ι' b,ι',K',H'⟩;have qZ:∀ j bL br bt,j≠id->H'[j]?=some (.live bL br bt)->c.H[j]?=some (.live bL br bt):=by
  intro j bL br bt hj hs;rcases uY j hj with e | ⟨_,e⟩
  ·rw [<-e];exact hs
  ·rw [e] at hs;simp at hs
 have Uo:∀ b,b < c.w.heap.size->¬ bz c.H c.ι b->b≠B:=by
  rintro b hlt hn rfl;rcases hB with e | e
  ·omega
  ·exact hn e
 have nK:∀ b,bz H' ι' b->b=B\/bz c.H c.ι b:=by
  rintro b ⟨j,bL,br,bt,h1,h2,h3⟩;by_cases hj:j=id
  ·left;simp only [ι',hj,if_true] at h3;exact h3.symm
  ·right;refine ⟨j,bL,br,bt,qZ j _ _ _ hj h1,h2,?_⟩;simp only [ι',hj,if_false] at h3;exact h3
 have ae0:¬ F B:=by
  intro hf;rcases hB with e | e
  ·have:=h.hF B hf;omega
  ·exact h.eF B e hf
 have bY:∀ i,Has c i->Has d i:=by
  rintro i ⟨h1,h2⟩;refine ⟨zb9 h1 hlen,?_⟩;show H'[i]?≠some .ew;by_cases hi:i=id
  ·subst hi;rw [hid];simp
  ·rcases uY i hi with e | ⟨e,_⟩
   ·rw [e];exact h2
   ·omega
 have hsp:∀ j o,d.H[j]?=some o->o.sp=true->c.H[j]?=some o/\d.ι j=c.ι j/\d.w.heap[c.ι j]?=c.w.heap[c.ι j]?:=by
  intro j o h1 h2;have hj:j≠id:=by rintro rfl;rw [show d.H=H' from rfl,hid] at h1;injection h1 with h1;subst h1;simp [Obj.sp] at h2
  have h3:c.H[j]?=some o:=by
   rcases uY j hj with e | ⟨_,e⟩
   ·rw [<-e];exact h1
   ·rw [show d.H=H' from rfl,e] at h1;simp at h1
  obtain ⟨g1,g2⟩:=h.o8 h3 h2;refine ⟨h3,by simp [d,ι',hj],KZ _ g1 ?_⟩;rintro rfl;rcases hB with e | e
  ·omega
  ·exact g2 e
 have hV:∀ x v,V c x v->V d x v:=by
  intro x v hx;refine V.mono ?_ ?_ ?_ ?_ (fun i b hs=>hs.keep bY hsp) hx
  ·intro b hb' hs;have hlt:b < c.w.heap.size:=by
    rcases zak b c.w.heap.size with e | e
    ·exact e
    ·rw [zan e] at hs;simp at hs
   have hnO:¬ bz c.H c.ι b:=fun ho=>hb' ((h.hO b).2 (.inr ho))
   have hne:=Uo b hlt hnO;refine ⟨KZ b hlt hne,?_⟩;rintro (hf | ho)
   ·exact hb' ((h.hO b).2 (.inl hf))
   ·rcases nK b ho with e | e
    ·exact hne e
    ·exact hnO e
  ·rintro i ext off len v ⟨hi,uL,hf⟩;refine ⟨bY i hi,uL,fun bL br bt hs=>?_⟩;by_cases zy:i=id
   ·subst zy;have hs':some (Obj.live bL br bt)=some (.live nl sz es'):=by rw [<-hs];exact hid
    injection hs' with hs';injection hs' with a1 a2 a3;subst a1;subst a2;subst a3
    obtain ⟨ob,oS⟩:∃ ob,c.H[i]?=some ob:=⟨_,za1 hi.1⟩
    cases ob with
    | dead=>exact (Fy oS).elim
    | ew=>exact (hi.2 oS).elim
    | mp _=>exact absurd (Jt _ oS) (by simp [Obj.sp])
    | it _ _=>exact absurd (Jt _ oS) (by simp [Obj.sp])
    | lp _ _ _ _ _=>exact absurd (Jt _ oS) (by simp [Obj.sp])
    | live vI CD o6=>
     obtain ⟨rfl,rfl,hle',heq⟩:=hold _ _ _ oS;obtain ⟨g1,g2⟩:=hf _ _ _ oS;refine ⟨zaI g1 hle',fun he=>?_⟩;have e1:o6.length=bt.length:=by omega
     obtain ⟨b1,b2,b3⟩:=heq e1;obtain ⟨g3,g4⟩:=g2 (by omega);refine ⟨g3,?_⟩;rcases g4 with ⟨x1,x2,_⟩ | ⟨_,cap,x3,x4⟩
     ·exact (b1 ⟨x1,x2⟩).elim
     ·right;refine ⟨hb,cap,?_,?_⟩
      ·simp only [d,ι',if_true,b2];exact x3
      ·simp only [d,K',if_true,b3];exact x4
   ·have:=hf _ _ _ (qZ i _ _ _ zy hs);simpa only [d,ι',K',zy,if_false] using this
  ·rintro i ext e o v ⟨hi,a,hv,hsp,hf⟩;refine ⟨bY i hi,a,hv,hsp,fun bL br bt hs=>?_⟩;by_cases zy:i=id
   ·subst zy;have hs':some (Obj.live bL br bt)=some (.live nl sz es'):=by rw [<-hs];exact hid
    injection hs' with hs';injection hs' with a1 a2 a3;subst a1;subst a2;subst a3
    obtain ⟨ob,oS⟩:∃ ob,c.H[i]?=some ob:=⟨_,za1 hi.1⟩
    cases ob with
    | dead=>exact (Fy oS).elim
    | ew=>exact (hi.2 oS).elim
    | mp _=>exact absurd (Jt _ oS) (by simp [Obj.sp])
    | it _ _=>exact absurd (Jt _ oS) (by simp [Obj.sp])
    | lp _ _ _ _ _=>exact absurd (Jt _ oS) (by simp [Obj.sp])
    | live vI CD o6=>
     obtain ⟨rfl,rfl,hle',heq⟩:=hold _ _ _ oS;obtain ⟨g1,g2⟩:=hf _ _ _ oS;refine ⟨zaI g1 hle',fun he=>?_⟩;obtain ⟨b1,b2,b3⟩:=heq (by omega);simp only [d,ι',if_true,b2];exact g2 (by omega)
   ·have:=hf _ _ _ (qZ i _ _ _ zy hs);simpa only [d,ι',K',zy,if_false] using this
  ·rintro i ext e o len v ⟨hi,a,hv,hsp,hf⟩;refine ⟨bY i hi,a,hv,hsp,fun bL br bt hs=>?_⟩;by_cases zy:i=id
   ·subst zy;have hs':some (Obj.live bL br bt)=some (.live nl sz es'):=by rw [<-hs];exact hid
    injection hs' with hs';injection hs' with a1 a2 a3;subst a1;subst a2;subst a3
    obtain ⟨ob,oS⟩:∃ ob,c.H[i]?=some ob:=⟨_,za1 hi.1⟩
    cases ob with
    | dead=>exact (Fy oS).elim
    | ew=>exact (hi.2 oS).elim
    | mp _=>exact absurd (Jt _ oS) (by simp [Obj.sp])
    | it _ _=>exact absurd (Jt _ oS) (by simp [Obj.sp])
    | lp _ _ _ _ _=>exact absurd (Jt _ oS) (by simp [Obj.sp])
    | live vI CD o6=>
     obtain ⟨rfl,rfl,hle',heq⟩:=hold _ _ _ oS;obtain ⟨g1,g2⟩:=hf _ _ _ oS;refine ⟨zaI g1 hle',fun he=>?_⟩;obtain ⟨b1,b2,b3⟩:=heq (by omega);simp only [d,ι',if_true,b2];exact g2 (by omega)
   ·have:=hf _ _ _ (qZ i _ _ _ zy hs);simpa only [d,ι',K',zy,if_false] using this
 have abJ:∀ b,bz H' ι' b->bz c.H c.ι b\/c.w.heap.size<=b:=by
  intro b ho;rcases nK b ho with rfl | e
  ·rcases hB with e | e
   ·right;omega
   ·exact .inl e
  ·exact .inl e
 refine ⟨d,rfl,rfl,⟨⟨?_,?_⟩,fun b=>Iff.rfl,fun b hf=>zb9 (h.hF b hf) hw1,?_,h.x.keep hsp hV⟩,hV,fun n=>⟨hw1,fun b hlt hn _=>KZ b hlt (Uo b hlt hn),fun x v _ hx=>hV x v hx,abJ,fun hn=>zaI hn hlen,hsame,fun b hb=> .inl (cD hsp hb)⟩,by simp [d,ι'],by simp [d,K']⟩
 ·intro j bL br bt hs hbk;by_cases hj:j=id
  ·subst hj;have hs':some (Obj.live bL br bt)=some (.live nl sz es'):=by rw [<-hs];exact hid
   injection hs' with hs';injection hs' with a1 a2 a3;subst a1;subst a2;subst a3
   refine ⟨cells,elem,by simp only [d,ι',if_true];exact Ts,by simp only [d,K',if_true];exact hk,by simp only [d,K',if_true];exact hle,?_,?_⟩
   ·exact .inr ⟨j,bL,br,bt,hs,hbk,rfl⟩
   ·intro i hi;obtain ⟨g1,g2⟩:=hc i hi;refine ⟨g1,fun q hq=>?_⟩;obtain ⟨u,hu,Qe⟩:=g2 q hq;refine ⟨u,hu,Qe.elim (hV _ _) fun f=>f d rfl fun b hb=>?_⟩;rcases hb with hf | ho
    ·exact .inl ((h.hO b).2 (.inl hf))
    ·rcases nK b ho with e | e
     ·exact .inr e
     ·exact .inl ((h.hO b).2 (.inr e))
  ·have hs0:=qZ j _ _ _ hj hs;obtain ⟨cl,el,g1,g2,g3,g4,g5⟩:=h.hr.back j _ _ _ hs0 hbk;have V0:c.ι j < c.w.heap.size:=by
    rcases zak (c.ι j) c.w.heap.size with e | e
    ·exact e
    ·rw [zan e] at g1;simp at g1
   by_cases Yn:c.ι j=B
   ·obtain ⟨_,_,_,_,_,iT⟩:=hsh j _ _ _ hj hs0 hbk Yn;obtain ⟨k1,k2⟩:=iT cl el (by rw [<-Yn];exact g1);refine ⟨cells,elem,by simp only [d,ι',hj,if_false];rw [Yn];exact Ts,by simp only [d,K',hj,if_false];rw [k1];exact g2,by simp only [d,K',hj,if_false];exact g3,?_,?_⟩
    ·exact .inr ⟨j,bL,br,bt,hs,hbk,rfl⟩
    ·intro i hi;obtain ⟨q1,q2⟩:=g5 i hi;refine ⟨q1,fun q hq=>?_⟩;obtain ⟨u,hu,Qe⟩:=q2 q hq;have hmul:=zag br (show i+1<=bt.length by omega);rw [zaC,zb2] at hmul;exact ⟨u,by rw [k2 _ (by omega)];exact hu,hV _ _ Qe⟩
   refine ⟨cl,el,by simp only [d,ι',hj,if_false];rw [KZ _ V0 Yn];exact g1,by simp only [d,K',hj,if_false];exact g2,by simp only [d,K',hj,if_false];exact g3,?_,?_⟩
   ·exact .inr ⟨j,bL,br,bt,hs,hbk,rfl⟩
   ·intro i hi;obtain ⟨q1,q2⟩:=g5 i hi;refine ⟨q1,fun q hq=>?_⟩;obtain ⟨u,hu,Qe⟩:=q2 q hq;exact ⟨u,hu,hV _ _ Qe⟩
 ·intro j j' bL br bt vI CD o6 hs hbk hs' JP he hlt;simp only [d,ι'] at he;by_cases hj:j=id
  ·have hj':j'≠id:=by omega
   simp only [hj,hj',if_true,if_false] at he;have:=hsh j' _ _ _ hj' (qZ j' _ _ _ hj' hs') JP he.symm;omega
  ·by_cases hj':j'=id
   ·simp only [hj,hj',if_true,if_false] at he;obtain ⟨k1,k2,k3,k4,_⟩:=hsh j _ _ _ hj (qZ j _ _ _ hj hs) hbk he;have yP:some (Obj.live vI CD o6)=some (.live nl sz es'):=by rw [<-hid,<-hj'];exact hs'.symm
    injection yP with yP;injection yP with a1 a2 a3;subst a1;subst a2;subst a3
    exact ⟨k1,k2,k3,k4⟩
   ·simp only [hj,hj',if_false] at he;exact h.hr.inj j j' _ _ _ _ _ _ (qZ j _ _ _ hj hs) hbk (qZ j' _ _ _ hj' hs') JP he hlt
 ·intro b ho hf;rcases nK b ho with rfl | e
  ·exact ae0 hf
  ·exact h.eF b e hf
theorem o7 {F:Fo} {c:Ctx} (h:SR F c) (id B k:Nat) (nl:Fl) (sz:Nat) (es':List (List AV)) (cells:Array Value) (elem:TypeId) (w':World) (H':List Obj)
 (hlen:c.H.length<=H'.length) (hid:H'[id]?=some (.live nl sz es')) (uY:∀ j,j≠id->H'[j]?=c.H[j]?\/(c.H.length<=j/\H'[j]?=none)) (Fy:c.H[id]?≠some .dead) (Jt:∀ o,c.H[id]?=some o->o.sp=false)
 (hold:∀ bL br bt,c.H[id]?=some (.live bL br bt)->bL=nl/\br=sz/\bt.length<=es'.length/\(bt.length=es'.length->¬(nl= .nil/\bt=[])/\B=c.ι id/\k=c.K id))
 (hb:¬(nl= .nil/\es'=[])) (hsame:cZ c.w w') (hw1:c.w.heap.size<=w'.heap.size) (KZ:∀ b,b < c.w.heap.size->b≠B->w'.heap[b]?=c.w.heap[b]?)
 (Ts:w'.heap[B]?=some (.cells cells elem (0,0)))
 (hB:B=c.w.heap.size\/bz c.H c.ι B)
 (hsh:∀ j bL br bt,j≠id->c.H[j]?=some (.live bL br bt)->¬(bL= .nil/\bt=[])->c.ι j=B->
  bL.old=true/\nl.CC=true/\br=sz/\bt.length<=es'.length/\j < id/\∀ cl el,c.w.heap[B]?=some (.cells cl el (0,0))->cells.size=cl.size/\∀ q,q < bt.length*br->cells[q]?=cl[q]?)
 (hk:cells.size=k*sz) (hle:es'.length<=k)
 (hc:∀ i (hi:i < es'.length),es'[i].length=sz/\∀ j (hj:j < es'[i].length),∃ u,cells[i*sz+j]?=some u/\V c es'[i][j] u):
 ∃ d:Ctx,d.w=w'/\d.H=H'/\SR F d/\(∀ x v,V c x v->V d x v)/\(∀ n,cK n c d)/\d.ι id=B/\d.K id=k:=
 Z4 h id B k nl sz es' cells elem w' H' hlen hid uY Fy Jt hold hb hsame hw1 KZ Ts (hB.imp (fun e=>by omega) fun e=>e) hsh hk hle fun i hi=>⟨(hc i hi).1,fun j hj=>by
  obtain ⟨u,e,v⟩:=(hc i hi).2 j hj;exact ⟨u,e,.inl v⟩⟩
theorem Zl {F:Fo} {c:Ctx} (h:SR F c) (id B:Nat) (o:Obj) (ho:o.sp=true) (wo:Go.Obj) (w':World) (H':List Obj)
 (hlen:c.H.length<=H'.length) (hid:H'[id]?=some o) (uY:∀ j,j≠id->H'[j]?=c.H[j]?\/(c.H.length<=j/\H'[j]?=none))
 (hold:(∃ o0,c.H[id]?=some o0/\o0.sp=true/\B=c.ι id)\/(B=c.w.heap.size/\¬ Has c id))
 (hsame:cZ c.w w') (hw1:c.w.heap.size<=w'.heap.size) (KZ:∀ b,b < c.w.heap.size->b≠B->w'.heap[b]?=c.w.heap[b]?) (Ts:w'.heap[B]?=some wo)
 (hsp:∀ d:Ctx,(∀ x v,V c x v->V d x v)->Fi F.cr d o wo):
 ∃ d:Ctx,d.w=w'/\d.H=H'/\SR F d/\(∀ x v,V c x v->V d x v)/\(∀ n,cK n c d)/\d.ι id=B/\∀ j,j≠id->d.ι j=c.ι j:=by
 let ι':Nat->Nat:=fun j=>if j=id then B else c.ι j
 let d:Ctx:=⟨w',fun b=>F b\/bz H' ι' b,ι',c.K,H'⟩;have qC:∀ nl sz es,H'[id]?≠some (.live nl sz es):=by
  intro nl sz es e;rw [hid] at e;injection e with e;subst e;simp [Obj.sp] at ho
 have afl:∀ nl sz es,c.H[id]?≠some (.live nl sz es):=by
  intro nl sz es e;rcases hold with ⟨o0,e1,e2,_⟩ | ⟨_,e1⟩
  ·rw [e] at e1;injection e1 with e1;subst e1;simp [Obj.sp] at e2
  ·exact e1 ⟨bn e,by rw [e];simp⟩
 have aL:∀ j nl sz es,H'[j]?=some (.live nl sz es)->j≠id/\c.H[j]?=some (.live nl sz es):=by
  intro j nl sz es e;have hj:j≠id:=by rintro rfl;exact qC _ _ _ e
  refine ⟨hj,?_⟩;rcases uY j hj with e1 | ⟨_,e1⟩
  ·rw [<-e1];exact e
  ·rw [e1] at e;simp at e
 have nK:∀ b,bz H' ι' b->bz c.H c.ι b:=by
  rintro b ⟨j,nl,sz,es,h1,h2,h3⟩;obtain ⟨hj,h4⟩:=aL _ _ _ _ h1;refine ⟨j,nl,sz,es,h4,h2,?_⟩;simpa [ι',hj] using h3
 have Z8:¬ bz c.H c.ι B:=by
  rcases hold with ⟨o0,e1,e2,rfl⟩ | ⟨rfl,_⟩
  ·exact (h.o8 e1 e2).2
  ·rintro ⟨j,nl,sz,es,q1,q2,q3⟩;obtain ⟨cells,elem,q4,_⟩:=h.hr.back j nl sz es q1 q2;rw [q3,zan (za7 _)] at q4;simp at q4
 have XP:∀ o u,c.w.cell? ⟨B,o,none⟩≠some u:=by
  intro p u e;unfold World.cell? at e;rcases hold with ⟨o0,e1,e2,rfl⟩ | ⟨rfl,_⟩
  ·obtain ⟨w0,g1,g2⟩:=h.x.xr id o0 e1 e2;rw [g1] at e
   cases w0 with
   | cells c1 e1 q1=>exact g2.ri _ _ _ rfl
   | _=>simp at e
  ·rw [zan (za7 _)] at e;simp at e
 have bY:∀ i,Has c i->Has d i:=by
  rintro i ⟨h1,h2⟩;refine ⟨zb9 h1 hlen,?_⟩;show H'[i]?≠some .ew;by_cases hi:i=id
  ·subst hi;rw [hid];intro e;injection e with e;subst e;simp [Obj.sp] at ho
  ·rcases uY i hi with e | ⟨e,_⟩
   ·rw [e];exact h2
   ·omega
 have hV:∀ x v,V c x v->V d x v:=by
  intro x v hx;refine V.HB ?_ ?_ ?_ ?_ ?_ hx
  ·intro b p u hb hc;have hne:b≠B:=by rintro rfl;exact XP _ _ hc
   have hlt:b < c.w.heap.size:=by
    rcases zak b c.w.heap.size with e | e
    ·exact e
    ·unfold World.cell? at hc;rw [zan e] at hc;simp at hc
   refine ⟨by rw [<-hc];simp only [World.cell?,d,KZ b hlt hne],?_⟩;rintro (hf | ho')
   ·exact hb ((h.hO b).2 (.inl hf))
   ·exact hb ((h.hO b).2 (.inr (nK b ho')))
  ·rintro i ext off len v ⟨g1,g2,g3⟩;refine ⟨bY i g1,g2,fun nl sz es hs=>?_⟩;obtain ⟨hj,hs'⟩:=aL _ _ _ _ hs;have:=g3 nl sz es hs';simpa only [d,ι',hj,if_false] using this
  ·rintro i ext e p v ⟨g1,a,g2,g3,g4⟩;refine ⟨bY i g1,a,g2,g3,fun nl sz es hs=>?_⟩;obtain ⟨hj,hs'⟩:=aL _ _ _ _ hs;have:=g4 nl sz es hs';simpa only [d,ι',hj,if_false] using this
  ·rintro i ext e p len v ⟨g1,a,g2,g3,g4⟩;refine ⟨bY i g1,a,g2,g3,fun nl sz es hs=>?_⟩;obtain ⟨hj,hs'⟩:=aL _ _ _ _ hs;have:=g4 nl sz es hs';simpa only [d,ι',hj,if_false] using this
  ·rintro i b ⟨g1,g2⟩;refine ⟨bY i g1,fun o1 e1 e2=>?_⟩;by_cases hi:i=id
   ·subst hi;rcases hold with ⟨o0,q1,q2,q3⟩ | ⟨_,q1⟩
    ·simp only [d,ι',if_true,q3];exact g2 o0 q1 q2
    ·exact (q1 g1).elim
   ·simp only [d,ι',hi,if_false];rcases uY i hi with e | ⟨e,_⟩
    ·exact g2 o1 (by rw [<-e];exact e1) e2
    ·have:=g1.1;omega
 have hBF:¬ bz c.H c.ι B:=Z8;refine ⟨d,rfl,rfl,⟨⟨?_,?_⟩,fun b=>Iff.rfl,fun b hf=>zb9 (h.hF b hf) hw1,fun b hb=>h.eF b (nK b hb),⟨?_,?_⟩⟩,hV,fun n=>⟨hw1,fun b hlt hn hs=>KZ b hlt ?_,fun x v _ hx=>hV x v hx,fun b hb=> .inl (nK b hb),fun hn=>zaI hn hlen,hsame,?_⟩,by simp [d,ι'],fun j hj=>by simp [d,ι',hj]⟩
 ·intro j nl sz es hs hbk;obtain ⟨hj,hs'⟩:=aL _ _ _ _ hs;obtain ⟨cl,el,g1,g2,g3,g4,g5⟩:=h.hr.back j _ _ _ hs' hbk;have ho':bz c.H c.ι (c.ι j):=⟨j,nl,sz,es,hs',hbk,rfl⟩;have Yn:c.ι j≠B:=by rintro e;rw [e] at ho';exact Z8 ho'
  have V0:c.ι j < c.w.heap.size:=by
   rcases zak (c.ι j) c.w.heap.size with e | e
   ·exact e
   ·rw [zan e] at g1;simp at g1
  refine ⟨cl,el,by simp only [d,ι',hj,if_false];rw [KZ _ V0 Yn];exact g1,g2,g3,.inr ⟨j,nl,sz,es,hs,hbk,rfl⟩,fun i hi=>⟨(g5 i hi).1,fun q hq=>?_⟩⟩;obtain ⟨u,hu,Qe⟩:=(g5 i hi).2 q hq;exact ⟨u,hu,hV _ _ Qe⟩
 ·intro j j' bL br bt vI CD o6 h1 h2 h3 h4 he hlt;obtain ⟨k1,Jx⟩:=aL _ _ _ _ h1;obtain ⟨k2,h3'⟩:=aL _ _ _ _ h3;simp only [d,ι',k1,k2,if_false] at he;exact h.hr.inj j j' _ _ _ _ _ _ Jx h2 h3' h4 he hlt
 ·intro j o1 e1 e2;by_cases hj:j=id
  ·subst hj;have:o1=o:=by rw [show d.H=H' from rfl,hid] at e1;injection e1 with e1;exact e1.symm
   subst this;exact ⟨wo,by simp only [d,ι',if_true];exact Ts,hsp d hV⟩
  ·have e3:c.H[j]?=some o1:=by
    rcases uY j hj with e | ⟨_,e⟩
    ·rw [<-e];exact e1
    ·rw [show d.H=H' from rfl,e] at e1;simp at e1
   obtain ⟨w0,g1,g2⟩:=h.x.xr j o1 e3 e2;refine ⟨w0,?_,g2.mono hV⟩;simp only [d,ι',hj,if_false];rw [KZ _ (h.o8 e3 e2).1 ?_]
   ·exact g1
   ·intro e;rcases hold with ⟨o0,q1,q2,q3⟩ | ⟨q1,_⟩
    ·exact hj (h.x.xi j id o1 o0 e3 e2 q1 q2 (by rw [e,q3]))
    ·have:=(h.o8 e3 e2).1;omega
 ·intro j j' o1 o2 e1 e2 e3 e4 he;have hc:∀ i o3,i≠id->H'[i]?=some o3->c.H[i]?=some o3:=by
   intro i o3 hi e5;rcases uY i hi with e | ⟨_,e⟩
   ·rw [<-e];exact e5
   ·rw [e] at e5;simp at e5
  have Nv:∀ i o3,i≠id->H'[i]?=some o3->o3.sp=true->c.ι i≠B:=by
   intro i o3 hi e5 e6 e;rcases hold with ⟨o0,q1,q2,q3⟩ | ⟨q1,_⟩
   ·exact hi (h.x.xi i id o3 o0 (hc _ _ hi e5) e6 q1 q2 (by rw [e,q3]))
   ·have:=(h.o8 (hc _ _ hi e5) e6).1;omega
  by_cases hj:j=id
  ·by_cases hj':j'=id
   ·rw [hj,hj']
   ·simp only [d,ι',hj,hj',if_true,if_false] at he;exact (Nv j' o2 hj' e3 e4 he.symm).elim
  ·by_cases hj':j'=id
   ·simp only [d,ι',hj,hj',if_true,if_false] at he;exact (Nv j o1 hj e1 e2 he).elim
   ·simp only [d,ι',hj,hj',if_false] at he;exact h.x.xi j j' o1 o2 (hc _ _ hj e1) e2 (hc _ _ hj' e3) e4 he
 ·rintro rfl;rcases hold with ⟨o0,q1,q2,q3⟩ | ⟨q1,_⟩
  ·exact hs ⟨id,o0,q1,q2,q3.symm⟩
  ·omega
 ·rintro b ⟨j,o1,e1,e2,e3⟩;by_cases hj:j=id
  ·simp only [d,ι',hj,if_true] at e3;rcases hold with ⟨o0,q1,q2,q3⟩ | ⟨q1,_⟩
   ·exact .inl ⟨id,o0,q1,q2,by rw [<-e3,q3]⟩
   ·right;omega
  ·simp only [d,ι',hj,if_false] at e3;rcases uY j hj with e | ⟨_,e⟩
   ·exact .inl ⟨j,o1,by rw [<-e];exact e1,e2,e3⟩
   ·rw [show d.H=H' from rfl,e] at e1;simp at e1
theorem xQ {F:Fo} {c:Ctx} (h:SR F c) {j:Nat} {nl:Fl} {sz:Nat} {es:List (List AV)} (hs:c.H[j]?=some (.live nl sz es)) (hbk:¬(nl= .nil/\es=[])) (he:c.ι j=c.w.heap.size):False:=by
 obtain ⟨cells,elem,g1,_⟩:=h.hr.back j _ _ _ hs hbk;rw [he,zan (za7 _)] at g1;simp at g1
theorem alone {F:Fo} {c:Ctx} (h:SR F c) {id j:Nat} {nl bL:Fl} {sz br:Nat} {es bt:List (List AV)} (hid:c.H[id]?=some (.live nl sz es)) (hbk:¬(nl= .nil/\es=[])) (hf:nl.free=true)
 (hj:j≠id) (hs:c.H[j]?=some (.live bL br bt)) (kn:¬(bL= .nil/\bt=[])) (he:c.ι j=c.ι id):False:=by
 rcases Nat.lt_or_gt_of_ne hj with hlt | hlt
 ·obtain ⟨_,k,_⟩:=h.hr.inj j id _ _ _ _ _ _ hs kn hid hbk he hlt
  cases nl<;>simp [Fl.free,Fl.CC] at hf k
 ·obtain ⟨k,_⟩:=h.hr.inj id j _ _ _ _ _ _ hid hbk hs kn he.symm hlt
  cases nl<;>simp [Fl.free,Fl.old] at hf k
theorem elder {F:Fo} {c:Ctx} (h:SR F c) {id j:Nat} {nl bL:Fl} {sz br:Nat} {es bt:List (List AV)} (hid:c.H[id]?=some (.live nl sz es)) (hbk:¬(nl= .nil/\es=[])) (hf:nl.old=false)
 (hj:j≠id) (hs:c.H[j]?=some (.live bL br bt)) (kn:¬(bL= .nil/\bt=[])) (he:c.ι j=c.ι id):bL.old=true/\nl.CC=true/\br=sz/\bt.length<=es.length/\j < id:=by
 rcases Nat.lt_or_gt_of_ne hj with hlt | hlt
 ·obtain ⟨k1,k2,k3,k4⟩:=h.hr.inj j id _ _ _ _ _ _ hs kn hid hbk he hlt;exact ⟨k1,k2,k3,k4,hlt⟩
 ·obtain ⟨k,_⟩:=h.hr.inj id j _ _ _ _ _ _ hid hbk hs kn he.symm hlt;rw [hf] at k;simp at k
end Go.Am
end
section
namespace Go.Am
section
variable {P:Program} {F:Fo} {c:Ctx}
def dR (F:Fo) (c d:Ctx):Prop:=SR F d/\(∀ x v,V c x v->V d x v)/\∀ n,cK n c d
theorem dR.refl (h:SR F c):dR F c c:=⟨h,fun _ _ h=>h,fun n=>cK.refl n c⟩
theorem dR.trans {d e:Ctx} (h:dR F c d) (h':dR F d e):dR F c e:=
 ⟨h'.1,fun x v hv=>h'.2.1 x v (h.2.1 x v hv),fun n=>(h.2.2 n).trans (h'.2.2 n)⟩
def Room (H:List Obj) (pl:Nat):Prop:=H[pl]?=some .ew\/pl=H.length
theorem cB {H:List Obj} {pl:Nat} (h:Room H pl) (o:Obj):(putObj H pl o)[pl]?=some o:=by
 rcases h with h | h
 ·rw [ke (wN h),if_pos rfl]
 ·subst h;simp [putObj]
theorem lP {H:List Obj} {pl:Nat} (h:Room H pl) (o:Obj) (j:Nat) (hj:j≠pl):(putObj H pl o)[j]?=H[j]?:=by
 rcases h with h | h
 ·rw [ke (wN h),if_neg hj]
 ·subst h;simp only [putObj,zc0,if_false];rcases zak j H.length with e | e
  ·rw [zai e]
  ·rw [zao e,zao (by simp;omega)]
theorem wA {H:List Obj} {pl:Nat} (o:Obj):H.length<=(putObj H pl o).length:=by
 unfold putObj;split<;>simp
theorem pS {H:List Obj} {pl:Nat} (h:Room H pl) (o:Obj):pl < (putObj H pl o).length:=bn (cB h o)
theorem made (h:SR F c) {pl:Nat} (dg:Room c.H pl) (k sz:Nat) (es:List (List AV)) (cells:Array Value) (elem:TypeId) (hk:cells.size=k*sz) (hle:es.length<=k)
 (hc:∀ i (hi:i < es.length),es[i].length=sz/\∀ j (hj:j < es[i].length),∃ u,cells[i*sz+j]?=some u/\V c es[i][j] u):
 ∃ d:Ctx,d.w={ c.w with heap:=c.w.heap.push (.cells cells elem) }/\d.H=putObj c.H pl (.live .norm sz es)/\dR F c d/\d.ι pl=c.w.heap.size/\d.K pl=k:=by
 have qC:∀ o:Obj,o≠ .ew->c.H[pl]?≠some o:=by
  intro o ho e;rcases dg with h1 | h1
  ·rw [h1] at e;injection e with e;exact ho e.symm
  ·rw [h1] at e;simp at e
 obtain ⟨d,h1,h2,h3,h4,h5,h6,h7⟩:=o7 h pl c.w.heap.size k .norm sz es cells elem { c.w with heap:=c.w.heap.push (.cells cells elem) } (putObj c.H pl (.live .norm sz es))
  (wA _) (cB dg _) (fun j hj=> .inl (lP dg _ j hj))
  (qC _ (by simp)) (fun o ho=>by cases o<;>first | rfl | exact (qC _ (by simp) ho).elim) (fun bL br bt hs=>(qC _ (by simp) hs).elim) (by simp) (cZ.push c.w cells elem c.w.drawn) (by simp) (fun b hb _=>by
   simp only [zbx];rw [if_neg (by omega)])
  (by simp) (.inl rfl) (fun j bL br bt _ hs hbk he=>(xQ h hs hbk he).elim) hk hle hc
 exact ⟨d,h1,h2,⟨h3,h4,h5⟩,h6,h7⟩
theorem Eb (h:SR F c) {pl:Nat} (dg:Room c.H pl) (cs:List AV) (cells:Array Value) (elem:TypeId) (uJ:PV c cs cells):
 ∃ d:Ctx,d.w={ c.w with heap:=c.w.heap.push (.cells cells elem) }/\d.H=putObj c.H pl (.live .norm cs.length [cs])/\dR F c d/\
  V d (.aJ pl 1 0 0) (.pointer (some ⟨c.w.heap.size,0,none⟩)):=by
 obtain ⟨d,h1,h2,h3,h4,h5⟩:=made h dg 1 cs.length [cs] cells elem (by rw [uJ.1];simp) (by simp) (fun i hi=>by
  have:i=0:=by simp at hi;omega
  subst this;refine ⟨rfl,fun j hj=>?_⟩;have hj':j < cells.size:=by rw [uJ.1];exact hj
  exact ⟨cells[j],by simp [hj'],uJ.2 j hj hj'⟩)
 refine ⟨d,h1,h2,h3,.aJ _ _ _ _ _ ⟨by rw [Has,h2];exact ⟨pS dg _,by rw [cB dg];simp⟩,_,rfl,rfl,fun nl sz es hs=>?_⟩⟩;rw [h2,cB dg] at hs;simp at hs;obtain ⟨_,rfl,rfl⟩:=hs;exact ⟨by simp,fun _=>by simp [h4]⟩
theorem mL (h:SR F c) {pl:Nat} (dg:Room c.H pl) (k sz:Nat) (es:List (List AV)) (cells:Array Value) (elem:TypeId) (hk:cells.size=k*sz) (hle:es.length<=k)
 (hc:∀ i (hi:i < es.length),es[i].length=sz/\∀ j (hj:j < es[i].length),∃ u,cells[i*sz+j]?=some u/\V c es[i][j] u):
 ∃ d:Ctx,d.w={ c.w with heap:=c.w.heap.push (.cells cells elem) }/\d.H=putObj c.H pl (.live .norm sz es)/\dR F c d/\
  V d (.own pl es.length 0 es.length) (.slice (some ⟨c.w.heap.size,0,none⟩) es.length k):=by
 obtain ⟨d,h1,h2,h3,h4,h5⟩:=made h dg k sz es cells elem hk hle hc;refine ⟨d,h1,h2,h3,.own _ _ _ _ _ ⟨by rw [Has,h2];exact ⟨pS dg _,by rw [cB dg];simp⟩,⟨_,_,rfl⟩,fun nl sz' es' hs=>?_⟩⟩;rw [h2,cB dg] at hs;simp at hs;obtain ⟨rfl,rfl,rfl⟩:=hs;exact ⟨by simp,fun _=>⟨by simp,.inr ⟨by simp,k,by simp [h4],by simp [h5]⟩⟩⟩
theorem SL (h:SR F c) (sz k:Nat) (es:List (List AV)) (cells:Array Value) (elem:TypeId) (JB:∀ i j (hi:i < es.length) (hj:j < es[i].length),es[i][j].bD 0=true) (hle:es.length<=k)
 (hc:∀ i (hi:i < es.length),es[i].length=sz/\∀ j (hj:j < es[i].length),∃ u,cells[i*sz+j]?=some u/\V c es[i][j] u):
 ∃ d:Ctx,d.w={ c.w with heap:=c.w.heap.push (.cells cells elem) }/\d.H=c.H/\dR F c d/\V d (.ro es) (.slice (some ⟨c.w.heap.size,0,none⟩) es.length k):=by
 have hlt:∀ b:Nat,(c.w.heap[b]?).isSome->b < c.w.heap.size:=by
  intro b hs;rcases zak b c.w.heap.size with e | e
  ·exact e
  ·rw [zan e] at hs;simp at hs
 have hk:∀ b:Nat,b < c.w.heap.size->(c.w.heap.push (Go.Obj.cells cells elem))[b]?=c.w.heap[b]?:=fun b hb=>by rw [zbx,if_neg (by omega)]
 let d:Ctx:=⟨{ c.w with heap:=c.w.heap.push (.cells cells elem) },c.O,c.ι,c.K,c.H⟩;have hV:∀ x v,V c x v->V d x v:=fun x v hx=>V.mono (c:=c) (d:=d) (fun b hb hs=>⟨hk b (hlt b hs),hb⟩) (fun _ _ _ _ _ h=>h) (fun _ _ _ _ _ h=>h) (fun _ _ _ _ _ _ h=>h) (fun _ _ h=>h) hx
 have VM:∀ b,c.O b->b < c.w.heap.size:=by
  intro b hb;rcases (h.hO b).1 hb with h1 | ⟨id,nl,br,bt,h1,h2,h3⟩
  ·exact h.hF b h1
  ·obtain ⟨Nn,Um,g1,_⟩:=h.hr.back id nl br bt h1 h2;rw [h3] at g1;exact hlt b (by rw [g1];rfl)
 have KO:SR F d:=by
  refine ⟨⟨?_,h.hr.inj⟩,h.hO,fun b hf=>zb9 (h.hF b hf) (by simp [d]),h.eF,h.x.keep (fun id o h1 h2=>⟨h1,rfl,hk _ (h.o8 h1 h2).1⟩) hV⟩;intro id nl br bt h1 h2;obtain ⟨Nn,Um,g1,g2,g3,g4,g5⟩:=h.hr.back id nl br bt h1 h2;have hb:c.ι id < c.w.heap.size:=hlt _ (by rw [g1];rfl);refine ⟨Nn,Um,(hk _ hb).trans g1,g2,g3,g4,fun i hi=>⟨(g5 i hi).1,fun j hj=>?_⟩⟩;obtain ⟨u,hu,hv⟩:=(g5 i hi).2 j hj;exact ⟨u,hu,hV _ _ hv⟩
 refine ⟨d,rfl,rfl,⟨KO,hV,fun n=>⟨by simp [d],fun b hb _ _=>hk b hb,fun x v _ hx=>hV x v hx,fun b ho=> .inl ho,fun hn=>hn,cZ.push c.w cells elem c.w.drawn,fun b hb=> .inl hb⟩⟩,?_⟩;refine .ro es ⟨c.w.heap.size,0,none⟩ k sz (fun i j=>(cells[i*sz+j]?).getD undef) JB hle (fun _ _=>⟨rfl,fun ho=>by have:=VM _ ho;simp at this⟩) (fun i hi=>(hc i hi).1) (fun i j hi hj=>?_) (fun i j hi hj=>?_)
 ·obtain ⟨u,hu,_⟩:=(hc i hi).2 j hj;simp [World.cell?,d,hu]
 ·obtain ⟨u,hu,hv⟩:=(hc i hi).2 j hj;rw [hu,zaz];exact hV _ _ hv
theorem dx (e:TypeId) (cells:Array Value) (w:World):(newRow e cells).run P w= .ok ⟨w.heap.size,0,none⟩ { w with heap:=w.heap.push (.cells cells e) }:=rfl
def VF (P:Program) (F:Fo) (c:Ctx) (a:Act) (o:Oper) (v:AV) (H':List Obj):Prop:=
 ∃ d:Ctx,d.H=H'/\dR F c d/\((∃ v',(execOp a.eval o).run P c.w= .ok (.value v') d.w/\V d v v')\/((execOp a.eval o).run P c.w= .ok .skip d.w/\v= .aY []))
theorem mO (sz:Nat):∀ (ps:List (Nat×AV)) (es r:List (List AV)),kr sz es ps=some r->r.length=es.length
 | [],es,r,h=>by simp [kr] at h;rw [h]
 | (i,v)::ps,es,r,h=>by
  simp only [kr] at h;split at h
  ·rw [mO sz ps _ r h];simp
  ·simp at h
def Row (c:Ctx) (sz:Nat) (es:List (List AV)) (cells:Array Value):Prop:=
 ∀ i (hi:i < es.length),es[i].length=sz/\∀ j (hj:j < es[i].length),∃ u,cells[i*sz+j]?=some u/\V c es[i][j] u
theorem pE (vs:List Value):∀ (k:Nat) (acc:Array Value) (off q:Nat),off+k+vs.length<=acc.size->
 ((vs.zipIdx k).foldl (fun cs (x:Value×Nat)=>cs.setIfInBounds (off+x.2) x.1) acc)[q]?=
   if off+k<=q/\q < off+k+vs.length then vs[q - (off+k)]? else acc[q]?:=by
 induction vs with
 | nil=>intro k acc off q _;rw [if_neg (by simp)];rfl
 | cons v vs ih=>
  intro k acc off q h;simp only [List.zipIdx_cons,List.foldl_cons];rw [ih (k+1) _ off q (by simp at h ⊢;omega)];by_cases h1:off+(k+1)<=q/\q < off+(k+1)+vs.length
  ·rw [if_pos h1,if_pos (by simp;omega)];have:q - (off+k)=(q - (off+(k+1)))+1:=by omega
   rw [this];simp
  ·rw [if_neg h1];by_cases h2:q=off+k
   ·subst h2;rw [if_pos (by simp)];have:off+k < acc.size:=by simp at h;omega
    simp [this]
   ·rw [if_neg (by simp;omega)];rw [Array.getElem?_setIfInBounds,if_neg (by omega)]
theorem Row.set {sz:Nat} {es:List (List AV)} {cells:Array Value} (h:Row c sz es cells) {i:Nat} (hi:i < es.length) {cs:List AV} {vs:Array Value} (uJ:PV c cs vs) (hlen:cs.length=sz)
 (hsz:es.length*sz<=cells.size):Row c sz (es.set i cs) ((vs.toList.zipIdx).foldl (fun acc (x:Value×Nat)=>acc.setIfInBounds (i*sz+x.2) x.1) cells):=by
 intro q hq;simp at hq;have hi2:i*sz+sz<=es.length*sz:=by
  have:=zag sz (show i+1<=es.length by omega);rw [zaC,zb2] at this;exact this
 have hvl:vs.toList.length=sz:=by simp [uJ.1,hlen]
 by_cases Tt:i=q
 ·subst Tt;simp only [List.getElem_set_self];refine ⟨hlen,fun j hj=>?_⟩;have hj':j < vs.size:=by rw [uJ.1];exact hj
  refine ⟨vs[j],?_,uJ.2 j hj hj'⟩;rw [pE _ _ _ _ _ (by omega),if_pos (by omega)];have:i*sz+j - (i*sz+0)=j:=by omega
  rw [this];simp [hj']
 ·have hg:(es.set i cs)[q]'(by simp;exact hq)=es[q]:=by rw [zbw Tt]
  obtain ⟨g1,g2⟩:=h q hq;refine ⟨by rw [hg];exact g1,fun j hj=>?_⟩;have hj2:j < es[q].length:=by rw [hg] at hj;exact hj
  obtain ⟨u,hu,hv⟩:=g2 j hj2;refine ⟨u,?_,?_⟩
  ·rw [pE _ _ _ _ _ (by omega),if_neg]
   ·exact hu
   ·have hjs:j < sz:=by omega
    rintro ⟨a1,a2⟩;rcases zak q i with e | e
    ·have:=zag sz (show q+1<=i by omega);rw [zaC,zb2] at this;omega
    ·have:=zag sz (show i+1<=q by omega);rw [zaC,zb2] at this;omega
  ·have:(es.set i cs)[q][j]'hj=es[q][j]:=by simp only [hg]
   rw [this];exact hv
theorem tO (sz:Nat):∀ (ps:List (Nat×AV)) (vs:List (Nat×Value)) (es:List (List AV)) (acc:Array Value) (r:List (List AV)),
 Row c sz es acc->es.length*sz<=acc.size->vs.length=ps.length->(∀ i (hi:i < ps.length) (hj:i < vs.length),vs[i].1=ps[i].1/\V c ps[i].2 vs[i].2)->
 kr sz es ps=some r->∃ acc',Instr.fill (fun i=>some (i*sz,sz)) acc vs=some acc'/\Row c sz r acc'/\acc'.size=acc.size
 | [],[],es,acc,r,h,_,_,_,hf=>by simp [kr] at hf;subst hf;exact ⟨acc,rfl,h,rfl⟩
 | (i,x)::ps,(i',v)::vs,es,acc,r,h,hsz,hl,hv,hf=>by
  simp only [kr] at hf;split at hf
  case isFalse=>simp at hf
  rename_i hc;obtain ⟨h1,h2,h3⟩:=hc;obtain ⟨hp,hx⟩:=hv 0 (by simp) (by simp);simp only [zaF] at hp hx;subst hp;obtain ⟨uJ,_⟩:=u9 hx h3;have hvs:v.cells.size=sz:=by rw [uJ.1];exact h1
  have hi2:i'*sz+sz<=es.length*sz:=by
   have:=zag sz (show i'+1<=es.length by omega);rw [zaC,zb2] at this;exact this
  have LD:=Row.set h h2 uJ h1 hsz;have hsize:((v.cells.toList.zipIdx).foldl (fun acc (x:Value×Nat)=>acc.setIfInBounds (i'*sz+x.2) x.1) acc).size=acc.size:=yJ _ _ _ _;obtain ⟨acc',e1,e2,e3⟩:=tO sz ps vs (es.set i' x.cells) _ r LD (by simp only [zbb,hsize];exact hsz) (by simpa using hl)
   (fun q hq hj=>by have:=hv (q+1) (by simp;omega) (by simp;omega);simpa using this) hf
  refine ⟨acc',?_,e2,by rw [e3,hsize]⟩;simp only [Instr.fill];rw [if_neg]
  ·rw [<-Array.foldl_toList,Array.toList_zipIdx];exact e1
  ·simp only [zat,decide_eq_true_eq,not_or];refine ⟨by simp [hvs],by omega⟩
 | [],_::_,_,_,_,_,_,hl,_,_=>by simp at hl
 | _::_,[],_,_,_,_,_,hl,_,_=>by simp at hl
theorem y9 (zv:Array Value) (z:List AV) (sz n:Nat) (uJ:PV c z zv) (hlen:z.length=sz):
 Row c sz (List.replicate n z) ((Array.range (n*sz)).map (zv[· % zv.size]!)):=by
 intro i hi;simp at hi;simp only [List.getElem_replicate];refine ⟨hlen,fun j hj=>?_⟩;have hj':j < zv.size:=by rw [uJ.1];exact hj
 have hs:zv.size=sz:=by rw [uJ.1,hlen]
 have hlt:i*sz+j < n*sz:=by
  have:=zag sz (show i+1<=n by omega);rw [zaC,zb2] at this;omega
 refine ⟨zv[j],?_,uJ.2 j hj hj'⟩;have hm:(i*sz+j) % sz=j:=by
  rw [Nat.add_comm,Nat.add_mul_mod_self_right];exact Nat.mod_eq_of_lt (by omega)
 simp [hlt,hs,hm];exact getElem!_pos zv j hj'
end
end Go.Am
end
