/- Parts of my machine and its laws, joined: AmMa AmS. No condition. -/
import Derived.Test.YtafgdbaekppjcaaGreatDoorAmQ
import Derived.Lib.OthersKept
import Derived.Laws.BytesString
import Derived.Laws.RangeString
import Derived.MapKept
set_option linter.unusedSectionVars false
set_option linter.unusedVariables false
set_option linter.unusedSimpArgs false
section
namespace Go.Am
open Go.MapKept Go.Lib
section
variable {P:Program} {F:Fo} {c:Ctx}
theorem xW (w:World) (o:Go.Obj) (h1:∀ cells elem q,o≠Go.Obj.cells cells elem q):cZ w (w.alloc o):=by
 refine ⟨rfl,rfl,rfl,fun a _=>?_,by rw [World.size_alloc];omega⟩;unfold World.frozen?;have e:(w.alloc o).heap=w.heap.push o:=rfl;rw [e,zbx];by_cases h:a.block=w.heap.size
 ·rw [if_pos h,zan (by omega)]
  cases o<;>first | rfl | (exact absurd rfl (h1 _ _ _))
 ·rw [if_neg h]
theorem Di {w w':World} {D:Nat} {o o':Go.Obj} (h:w.heap[D]?=some o) (hw:w'={ w with heap:=w.heap.setIfInBounds D o' }) (h1:∀ cells elem q,o≠Go.Obj.cells cells elem q) (h2:∀ cells elem q,o'≠Go.Obj.cells cells elem q):cZ w w':=by
 subst hw;refine ⟨rfl,rfl,rfl,fun a _=>?_,by simp⟩;have hlt:D < w.heap.size:=(zaX.1 h).1;unfold World.frozen?;by_cases e:a.block=D
 ·simp only [e,Array.getElem?_setIfInBounds_self_of_lt hlt,h]
  cases o<;>cases o'<;>first | rfl | (exact absurd rfl (h1 _ _ _)) | (exact absurd rfl (h2 _ _ _))
 ·simp only [Array.getElem?_setIfInBounds_ne (fun q=>e q.symm)]
theorem LF (h:SR F c) {pl:Nat} (dg:Room c.H pl) (o:Obj) (ho:o.sp=true) (wo:Go.Obj) (hnc:∀ cells elem q,wo≠Go.Obj.cells cells elem q) (hsp:∀ d:Ctx,(∀ x v,V c x v->V d x v)->Fi F.cr d o wo):
 ∃ d:Ctx,d.w=c.w.alloc wo/\d.H=putObj c.H pl o/\dR F c d/\SV d pl c.w.heap.size/\d.ι pl=c.w.heap.size:=by
 obtain ⟨d,h1,h2,h3,h4,h5,h6,h7⟩:=Zl h pl c.w.heap.size o ho wo (c.w.alloc wo) (putObj c.H pl o) (wA _) (cB dg _) (fun j hj=> .inl (lP dg _ j hj))
  (.inr ⟨rfl,fun hh=>by rcases dg with e | e
                        ·exact hh.2 e
                        ·have:=hh.1;omega⟩) (xW _ _ hnc) (by rw [World.size_alloc];omega) (fun b hb _=>(heap_alloc c.w wo).2 b hb) (heap_alloc c.w wo).1 hsp
 refine ⟨d,h1,h2,⟨h3,h4,h5⟩,⟨?_,fun o' e1 e2=>h6.symm⟩,h6⟩;refine ⟨by rw [h2];exact pS dg _,by rw [h2,cB dg];intro e;injection e with e;subst e;simp [Obj.sp] at ho⟩
theorem U4 (h:SR F c) {id:Nat} {o0:Obj} (hid:c.H[id]?=some o0) (ho0:o0.sp=true) (o:Obj) (ho:o.sp=true) (wo:Go.Obj) (w':World) (hw:w'={ c.w with heap:=c.w.heap.setIfInBounds (c.ι id) wo })
 (hnc:∀ cells elem q,wo≠Go.Obj.cells cells elem q) (hsp:∀ d:Ctx,(∀ x v,V c x v->V d x v)->Fi F.cr d o wo):
 ∃ d:Ctx,d.w=w'/\d.H=c.H.set id o/\dR F c d/\d.ι id=c.ι id:=by
 obtain ⟨w0,g1,g2⟩:=h.x.xr id o0 hid ho0;have hlt:=bn hid;obtain ⟨s1,s2⟩:=heap_set (w:=c.w) (o':=wo) g1;obtain ⟨d,h1,h2,h3,h4,h5,h6,h7⟩:=Zl h id (c.ι id) o ho wo w' (c.H.set id o) (by simp) (by simp [hlt]) (fun j hj=> .inl (by rw [za6 (fun q=>hj q.symm)]))
  (.inl ⟨o0,hid,ho0,rfl⟩) (Di g1 hw g2.ri hnc) (by rw [hw];simp) (fun b _ hb=>by rw [hw];exact s2 b hb) (by rw [hw];exact s1) hsp
 exact ⟨d,h1,h2,⟨h3,h4,h5⟩,h6⟩
theorem xX (a:ByteArray):(a==a)=true:=by
 show ByteArray.instBEq.beq a a=true
 cases a with
 | mk d=>show (d==d)=true;exact beq_self_eq_true d
theorem NC {a b:ByteArray} (h:a≠b):(a==b)=false:=by
 cases a with
 | mk d=>
  cases b with
  | mk e=>
   show (d==e)=false;exact beq_eq_false_iff_ne.2 fun q=>h (by rw [q])
inductive Uu:TypeDesc->CK->Prop
 | bool:Uu .bool .bool
 | int (j:IntKind):Uu (.int j) (.int j)
 | str:Uu .string .str
theorem zQ {t:TypeId} {k:CK} (h:JF P t=some k):∃ d,P.underlying t=some d/\Uu d k:=by
 unfold JF at h;split at h
 ·rename_i hu;injection h with h;subst h;exact ⟨_,hu,.bool⟩
 ·rename_i hu;injection h with h;subst h;exact ⟨_,hu,.int _⟩
 ·rename_i hu;injection h with h;subst h;exact ⟨_,hu,.str⟩
 ·simp at h
theorem bx {d:TypeDesc} {k:CK} (hd:Uu d k) {x y:AV} {xv yv:Value} {b:Bool} (hx:V c x xv) (hy:V c y yv)
 (h:dj k x y=some b):Instr.sameNow d xv yv=some b:=by
 unfold dj at h;split at h
 ·rename_i a a'
  cases hx;cases hy
  cases hd;injection h with h;subst h;rfl
 ·rename_i j j1 a j2 a'
  cases hx;cases hy;split at h
  case isFalse=>simp at h
  rename_i hj;obtain ⟨rfl,rfl⟩:=hj
  cases hd;injection h with h;subst h
  simp [Instr.sameNow]
 ·rename_i a a'
  cases hx;cases hy
  cases hd;injection h with h;subst h
  simp only [Instr.sameNow,za2];by_cases e:a=a'
  ·subst e;exact (xX _).trans (beq_self_eq_true _).symm
  ·have:(⟨a.toArray⟩:ByteArray)≠⟨a'.toArray⟩:=fun q=>e (by injection q with q;exact List.toArray_inj q)
   rw [beq_eq_false_iff_ne.2 e];exact NC this
 ·simp at h
def ER (c:Ctx) (es:List (AV×AV)) (l:List MapEntry):Prop:=l.length=es.length/\∀ i (hi:i < es.length) (hj:i < l.length),V c es[i].1 l[i].key/\V c es[i].2 l[i].val
theorem lQ {d:TypeDesc} {k:CK} (hd:Uu d k) {x:AV} {xv:Value} (hx:V c x xv):
 ∀ (es:List (AV×AV)) (l:List MapEntry) (i:Nat) (r:Option (Nat×AV)),ER c es l->iZ k x i es=some r->
  (r=none->Instr.findNow d xv l i=some none)/\∀ j v,r=some (j,v)->∃ v',Instr.findNow d xv l i=some (some (j,v'))/\V c v v'/\i<=j/\j < i+es.length/\∃ y u,es[j - i]?=some (y,u)/\dj k x y=some true
 | [],l,i,r,he,h=>by
  have:l=[]:=List.length_eq_zero_iff.1 he.1;subst this;simp only [iZ,za2] at h;subst h;exact ⟨fun _=>rfl,fun j v e=>by simp at e⟩
 | (y,u)::es,l,i,r,he,h=>by
  obtain ⟨h1,h2⟩:=he
  cases l with
  | nil=>simp at h1
  | cons e l=>
   have h0:=h2 0 (by simp) (by simp);simp only [zaF] at h0;have lq:ER c es l:=⟨by simpa using h1,fun q hq hj=>h2 (q+1) (by simpa using hq) (by simpa using hj)⟩;rw [iZ] at h;split at h
   ·rename_i hq;injection h with h;subst h
    have:=bx hd hx h0.1 hq;exact ⟨fun q=>by simp at q,fun j v q=>by
     simp only [za2,za4] at q;obtain ⟨rfl,rfl⟩:=q;refine ⟨e.val,by simp [Instr.findNow,this],h0.2,za7 _,by simp,y,u,by simp,hq⟩⟩
   ·rename_i hq;have:=bx hd hx h0.1 hq;obtain ⟨k1,k2⟩:=lQ hd hx es l (i+1) r lq h;refine ⟨fun q=>by rw [Instr.findNow,this];exact k1 q,fun j v q=>?_⟩;obtain ⟨v',a1,a2,a3,a4,y',u',a5,a6⟩:=k2 j v q;refine ⟨v',by rw [Instr.findNow,this];exact a1,a2,by omega,by simp only [zaK];omega,y',u',?_,a6⟩;rw [show j - i=(j - (i+1))+1 by omega];simpa using a5
   ·simp at h
theorem fM {kt:TypeId} {d:TypeDesc} {k:CK} (hu:P.underlying kt=some d) (hd:Uu d k) (e:Bool) (v:Value) (w:World):
 (Instr.checkKey e 10000 kt v).run P w= .ok () w:=by
 show (Instr.checkKey e (9999+1) kt v).run P w= .ok () w;unfold Instr.checkKey;simp only [Sem.run_bind,aA hu,Result.andThen_ok]
 cases hd<;>cases v<;>rfl
theorem tq (h:SR F c) {m:AV} {mv:Value} {es:List (AV×AV)} (hm:V c m mv) (he:entries c.H m=some es):
 (mv= .map none/\es=[])\/∃ id b l k,m= .mp id/\mv= .map (some b)/\b=c.ι id/\c.H[id]?=some (.mp es)/\c.w.heap[b]?=some (.map l k)/\ER c es l.toList:=by
 unfold entries at he;split at he
 ·cases hm;injection he with he;subst he
  exact .inl ⟨rfl,rfl⟩
 ·rename_i id
  cases hm with
  | mp _ b hs=>
   unfold gC at he;split at he
   case h_2=>simp at he
   rename_i es' hid;injection he with he;subst he
   have hb:=hs.2 _ hid rfl;subst hb;obtain ⟨wo,g1,l,k,rfl,g2,g3⟩:=h.x.xr id _ hid rfl;exact .inr ⟨id,_,l,k,rfl,rfl,rfl,hid,g1,by simpa using g2,fun i hi hj=>by simpa using g3 i hi (by simpa using hj)⟩
 ·simp at he
theorem V7 (h:SR F c) {t kt et:TypeId} {k:CK} {i:TypeInfo} {z:Value} (ht:P.underlying t=some (.map kt et)) (hk:JF P kt=some k) (hi:P.info? et=some i) (hz:i.zero=some z) {ok:Bool} {m x r:AV} {mv xv:Value}
 (hm:V c m mv) (hx:V c x xv) (hr:gY c.H k (ofValue z) ok m x=some r):∃ v,(Instr.lookup t mv xv ok).run P c.w= .ok v c.w/\V c r v:=by
 obtain ⟨d,hu,hd⟩:=zQ hk;unfold gY at hr;split at hr
 case h_2=>simp at hr
 rename_i es he;have main:∀ l:List MapEntry,ER c es l->∃ a:Option (Nat×Value),Instr.findNow d xv l 0=some a/\((∃ j v,a=some (j,v)/\V c r (if ok then .tuple #[v,.bool true] else v))\/(a=none/\V c r (if ok then .tuple #[z,.bool false] else z))):=by
  intro l hl;have aY:∀ (u:AV) (v:Value) (b:Bool),V c u v->V c (if ok then .aY [u,.bool b] else u) (if ok then .tuple #[v,.bool b] else v):=by
   intro u v b hv
   cases ok with
   | false=>exact hv
   | true=>
    refine .aY _ _ (by simp) fun q hq hj=>?_
    match q,hq with
    | 0,_=>exact hv
    | 1,_=>exact .bool b
  split at hr
  ·rename_i j v hf;injection hr with hr;subst hr
   obtain ⟨v',a1,a2,_⟩:=(lQ hd hx es l 0 _ hl hf).2 j v rfl;exact ⟨_,a1,.inl ⟨j,v',rfl,aY _ _ _ a2⟩⟩
  ·rename_i hf;injection hr with hr;subst hr
   exact ⟨none,(lQ hd hx es l 0 _ hl hf).1 rfl,.inr ⟨rfl,aY _ _ _ (zR c z)⟩⟩
  ·simp at hr
 rcases tq h hm he with ⟨rfl,rfl⟩ | ⟨id,b,l,q,rfl,rfl,rfl,hid,hb,hl⟩
 ·obtain ⟨a,h1,h2⟩:=main [] ⟨rfl,fun i hi=>by simp at hi⟩;simp only [Instr.findNow,za2] at h1;subst h1;rcases h2 with ⟨_,_,e,_⟩ | ⟨_,h2⟩
  ·simp at e
  refine ⟨_,?_,h2⟩;unfold Instr.lookup;simp only [Sem.run_bind,aA ht,Result.andThen_ok,Sem.run_pure,fM hu hd,Instr.findKey,aA hu,Instr.findNow,ff hi hz]
 ·obtain ⟨a,h1,h2⟩:=main l.toList hl;rcases h2 with ⟨j,v,rfl,h2⟩ | ⟨rfl,h2⟩
  ·refine ⟨_,?_,h2⟩;unfold Instr.lookup;simp only [Sem.run_bind,aA ht,Result.andThen_ok,Sem.run_pure,getObj,Sem.run,hb,fM hu hd,Instr.findKey,aA hu,h1]
  ·refine ⟨_,?_,h2⟩;unfold Instr.lookup;simp only [Sem.run_bind,aA ht,Result.andThen_ok,Sem.run_pure,getObj,Sem.run,hb,fM hu hd,Instr.findKey,aA hu,h1,ff hi hz]
theorem EJ {k:CK} {x y:AV} {xv yv:Value} (hx:V c x xv) (hy:V c y yv) (h:dj k x y=some true):Instr.sameBits 10000 yv xv=true:=by
 unfold dj at h;split at h
 ·cases hx;cases hy;injection h with h
  simp only [beq_iff_eq] at h;subst h;simp [Instr.sameBits]
 ·cases hx;cases hy;split at h
  case isFalse=>simp at h
  rename_i hj;obtain ⟨rfl,rfl⟩:=hj;injection h with h
  simp only [beq_iff_eq] at h;subst h;simp [Instr.sameBits]
 ·cases hx;cases hy;injection h with h
  simp only [beq_iff_eq] at h;subst h;simp only [Instr.sameBits];exact xX _
 ·simp at h
theorem V8 (h:SR F c) {t kt et:TypeId} {k:CK} (ht:P.underlying t=some (.map kt et)) (hk:JF P kt=some k) {m x u:AV} {mv xv uv:Value} (hm:V c m mv) (hx:V c x xv) (hu:V c u uv) {H':List Obj}
 (hr:gX c.H k m x u=some H'):∃ d:Ctx,d.H=H'/\dR F c d/\(Instr.mapUpdate t mv xv uv).run P c.w= .ok () d.w:=by
 obtain ⟨dd,hud,hd⟩:=zQ hk;unfold gX at hr;split at hr
 case h_2=>simp at hr
 rename_i id;split at hr
 case h_2=>simp at hr
 rename_i es he;rcases tq h hm (show entries c.H (.mp id)=some es from he) with ⟨e1,_⟩ | ⟨id',b,l,q,e,rfl,rfl,hid,hb,hl⟩
 ·cases hm;cases e1
 injection e with e;subst e
 have fin:∀ (es':List (AV×AV)) (l':Array MapEntry) (q':Nat),H'=c.H.set id (.mp es')->(∀ d:Ctx,(∀ x v,V c x v->V d x v)->ER d es' l'.toList)->(Instr.mapUpdate t (.map (some (c.ι id))) xv uv).run P c.w= .ok () { c.w with heap:=c.w.heap.setIfInBounds (c.ι id) (.map l' q') }->
  ∃ d:Ctx,d.H=H'/\dR F c d/\(Instr.mapUpdate t (.map (some (c.ι id))) xv uv).run P c.w= .ok () d.w:=by
  intro es' l' q' e1 e2 e3;obtain ⟨d,d1,d2,d3,_⟩:=U4 h hid rfl (.mp es') rfl (.map l' q') _ rfl (by simp) (fun d hv=>⟨l',q',rfl,by simpa using (e2 d hv).1,fun i hi hj=>(e2 d hv).2 i hi (by simpa using hj)⟩);exact ⟨d,by rw [d2,e1],d3,by rw [d1];exact e3⟩
 have hgo:∀ o:Go.Obj,(setObj (c.ι id) o).run P c.w= .ok () { c.w with heap:=c.w.heap.setIfInBounds (c.ι id) o }:=fun o=>run_setObj_map o hb
 split at hr
 ·rename_i j v hf;injection hr with hr;subst hr
  obtain ⟨v',a1,a2,_,a4,y,u',a5,a6⟩:=(lQ hd hx es l.toList 0 _ hl hf).2 j v rfl;simp only [zaD,Nat.sub_zero] at a4 a5;have hjl:j < l.size:=by have:=hl.1;simp at this;omega
  have hy:V c y l[j].key:=by
   have:=(hl.2 j a4 (by simpa using hjl)).1;rw [za1 a4] at a5;injection a5 with a5
   simpa [a5] using this
  refine fin (es.set j (x,u)) (l.modify j fun e=>{ e with key:=xv,val:=uv }) q rfl (fun d hv=>⟨by simp [hl.1],fun i hi hj=>?_⟩) ?_
  ·simp only [zbb] at hi;rw [zbY];simp only [zbC,Array.getElem_modify];by_cases e:j=i
   ·simp only [e,if_true];exact ⟨hv _ _ hx,hv _ _ hu⟩
   ·have:=hl.2 i hi (by simpa using hj);simp only [e,if_false];exact ⟨hv _ _ (by simpa using this.1),hv _ _ (by simpa using this.2)⟩
  ·unfold Instr.mapUpdate;simp only [Sem.run_bind,aA ht,Result.andThen_ok,getObj,Sem.run,hb,fM hud hd,Instr.findKey,aA hud,a1,Sem.run_pure,zam hjl,zaN,zaz,Instr.keyThatStays,EJ hx hy a6,if_true];exact hgo _
 ·rename_i hf;split at hr
  case isFalse=>simp at hr
  injection hr with hr;subst hr
  have a1:=(lQ hd hx es l.toList 0 _ hl hf).1 rfl;refine fin (es++[(x,u)]) (l.push { key:=xv,val:=uv,born:=q }) (q+1) rfl (fun d hv=>⟨by simp [<-hl.1],fun i hi hj=>?_⟩) ?_
  ·simp only [za8,zaA] at hi;have hls:l.size=es.length:=by simpa using hl.1
   by_cases e:i < es.length
   ·have:=hl.2 i e (by simpa [hls] using e);simp only [zaU e,zbC];rw [Array.getElem_push_lt (by omega)];exact ⟨hv _ _ (by simpa using this.1),hv _ _ (by simpa using this.2)⟩
   ·have e2:i=es.length:=by omega
    subst e2;simp only [zaQ (za7 _),zbl,zaF,zbC];have:(l.push { key:=xv,val:=uv,born:=q })[es.length]'(by simp [hls])={ key:=xv,val:=uv,born:=q }:=by
     rw [Array.getElem_push];rw [dif_neg (by omega)]
    rw [this];exact ⟨hv _ _ hx,hv _ _ hu⟩
  ·unfold Instr.mapUpdate;simp only [Sem.run_bind,aA ht,Result.andThen_ok,getObj,Sem.run,hb,fM hud hd,Instr.findKey,aA hud,a1,Sem.run_pure];exact hgo _
 ·simp at hr
theorem aaf (h:SR F c) {ty:TypeId} {x v:AV} {xv:Value} (hx:V c x xv) {H':List Obj} (hr:uK c.H x=some (v,H')):
 ∃ d:Ctx,d.H=H'/\dR F c d/\∃ v',(Instr.next xv true ty).run P c.w= .ok v' d.w/\V d v v':=by
 unfold uK at hr;split at hr
 case h_2=>simp at hr
 rename_i id;split at hr
 case h_2=>simp at hr
 rename_i s pos hid
 cases hx with
 | qB _ b hs=>
  have hb:=hs.2 _ hid rfl;subst hb;obtain ⟨wo,g1,g2⟩:=h.x.xr id _ hid rfl
  cases g2;have hsz:(⟨s.toArray⟩:ByteArray).size=s.length:=by simp [ByteArray.size]
  split at hr
  ·rename_i hp;simp only [za2,za4] at hr;obtain ⟨rfl,rfl⟩:=hr;have hrun:=run_next_any_at (P:=P) c.w (c.ι id) ⟨s.toArray⟩ pos ty g1 (by rw [hsz];exact hp);obtain ⟨d,d1,d2,d3,_⟩:=U4 h hid rfl (.it s (pos+(Utf8.decode ⟨s.toArray⟩ pos).2)) rfl (.stringIter ⟨s.toArray⟩ (pos+(Utf8.decode ⟨s.toArray⟩ pos).2)) (c.w.iterAt (c.ι id) ⟨s.toArray⟩ (pos+(Utf8.decode ⟨s.toArray⟩ pos).2)) rfl (by simp) (fun d hv=>rfl);refine ⟨d,d2,d3,_,by rw [d1];exact hrun,.aY _ _ (by simp) fun q hq hj=>?_⟩;match q,hq with
   | 0,_=>exact .bool true
   | 1,_=>exact .int _ _
   | 2,_=>exact .int _ _
  ·rename_i hp;simp only [za2,za4] at hr;obtain ⟨rfl,rfl⟩:=hr;refine ⟨c,rfl,dR.refl h,_,run_next_end_at (P:=P) c.w (c.ι id) ⟨s.toArray⟩ pos ty g1 (by rw [hsz];exact hp),.aY _ _ (by simp) fun q hq hj=>?_⟩;match q,hq with
   | 0,_=>exact .bool false
theorem xY:∀ {es:List (List AV)} {l:List UInt8},wB es=some l->l.length=es.length/\∀ i (hi:i < es.length) (hj:i < l.length),∃ n,es[i]=[.int .u8 n]/\l[i]=UInt8.ofNat n.toNat
 | [],l,h=>by simp only [wB,za2] at h;subst h;exact ⟨rfl,fun i hi=>by simp at hi⟩
 | e::es,l,h=>by
  rw [wB] at h;split at h
  case h_2=>simp at h
  rename_i b l' h1 h2;injection h with h;subst h
  obtain ⟨k1,k2⟩:=xY h2;refine ⟨by simp [k1],fun i hi hj=>?_⟩
  cases i with
  | zero=>
   unfold byteOf at h1;split at h1
   ·injection h1 with h1;exact ⟨_,rfl,h1.symm⟩
   ·simp at h1
  | succ i=>simpa using k2 i (by simpa using hi) (by simpa using hj)
theorem aag (h:SR F c) {x r:AV} {xv:Value} (hx:V c x xv) (hr:Cs c.H x=some r):∃ v,(Conv.bytesToString xv).run P c.w= .ok v c.w/\V c r v:=by
 unfold Cs at hr;split at hr
 case isTrue=>simp at hr
 rename_i Jt;split at hr
 case h_2=>simp at hr
 rename_i es oR;split at hr
 case h_2=>simp at hr
 rename_i l hl;injection hr with hr;subst hr
 obtain ⟨k1,k2⟩:=xY hl;have hall:(es.all fun e=>e.length==1&&aW e)=true:=by
  refine zaf.2 fun e he=>?_
  obtain ⟨i,hi,rfl⟩:=zaE he;obtain ⟨n,e1,_⟩:=k2 i hi (by omega);rw [e1];simp [aW,AV.one]
 obtain ⟨arr,a1,a2,a3,a4,_⟩:=TD (P:=P) h.hr hx oR hall;have m7:arr=(List.ofFn fun i:Fin es.length=>Value.int .u8 ((match es[i] with | [.int _ n]=>n | _=>0))).toArray:=by
  apply Array.ext
  ·simp [a3]
  ·intro i h1 h2;have hi:i < es.length:=by simpa using h2
   obtain ⟨g1,g2⟩:=a4 i hi;obtain ⟨n,e1,_⟩:=k2 i hi (by omega);obtain ⟨u,hu,hv⟩:=g2 0 (by rw [e1];simp);simp only [e1,zaF] at hv
   cases hv;simp only [zbv,zb7,zam h1,za2] at hu;rw [hu];simp [e1]
 obtain ⟨ns,abT,qC⟩:∃ ns:List Int,arr=(ns.map (Value.int .u8)).toArray/\ns.map (fun n=>UInt8.ofNat n.toNat)=l:=by
  refine ⟨List.ofFn fun i:Fin es.length=>(match es[i] with | [.int _ n]=>n | _=>0),m7.trans (by rw [List.map_ofFn];rfl),?_⟩;apply zb4
  ·simp [k1]
  ·intro i h1 h2;have hi:i < es.length:=by simpa using h1
   obtain ⟨n,e1,e2⟩:=k2 i hi h2;simp [e1,e2]
 have hbytes:∀ (q:List Int) (s:ByteArray),q.foldl (fun r n=>r.push (UInt8.ofNat n.toNat)) s=⟨s.data++(q.map fun n=>UInt8.ofNat n.toNat).toArray⟩:=by
  intro q;induction q with
  | nil=>intro s;simp
  | cons n q ih=>
   intro s;rw [List.foldl_cons,ih];congr 1;simp only [ByteArray.push,za5];apply zbp;simp
 have abU:ns.foldl (fun r n=>r.push (UInt8.ofNat n.toNat)) ByteArray.empty=⟨l.toArray⟩:=by
  rw [hbytes,qC];show (⟨#[]++l.toArray⟩:ByteArray)=_;simp
 have uL:∃ a len cap,xv= .slice a len cap:=by
  unfold dz at oR;split at oR
  ·cases hx;exact ⟨_,_,_,rfl⟩
  ·cases hx with
   | CB=>exact ⟨_,_,_,rfl⟩
   | ro=>exact ⟨_,_,_,rfl⟩
  ·cases hx with
   | own _ _ _ _ _ how=>obtain ⟨_,⟨a,cap,rfl⟩,_⟩:=how;exact ⟨_,_,_,rfl⟩
  ·simp [AV.isStr] at Jt
  ·cases hx with
   | arr _ _ _ _ _ _ _ how=>obtain ⟨_,a,⟨cap,rfl,_⟩,_⟩:=how;exact ⟨_,_,_,rfl⟩
  ·simp at oR
 obtain ⟨a,len,cap,rfl⟩:=uL;have hlen:len=es.length:=by
  have:=a1 c.w;simp only [Builtin.lenOf,Sem.run_pure,Result.ok.injEq,and_true] at this;exact this
 cases a with
 | none=>
  have h0:es.length=0:=by
   have:=a2 c.w rfl;rcases Nat.eq_zero_or_pos es.length with e | e
   ·exact e
   ·exfalso;simp only [Builtin.firstCells,Sem.run_pure,Result.ok.injEq,and_true] at this;rw [<-this] at a3;simp at a3;omega
  have:l=[]:=List.length_eq_zero_iff.1 (by omega);subst this;exact ⟨_,rfl,.str []⟩
 | some a=>
  have h2:=a2 c.w rfl;simp only [Builtin.firstCells,zbv] at h2;rw [<-hlen,abT] at h2;refine ⟨_,run_bytesToString c.w a len cap ns h2,?_⟩;rw [abU];exact .str l
end
end Go.Am
end
section
namespace Go.Am
section
variable {P:Program} {F:Fo} {c:Ctx}
theorem cM {a:Act} {o:Oper} {v:AV} {H':List Obj} {s:Sem Value} (he:execOp a.eval o=(do pure (.value (<- s))))
 (h:∃ d:Ctx,d.H=H'/\dR F c d/\∃ v',s.run P c.w= .ok v' d.w/\V d v v'):VF P F c a o v H':=by
 obtain ⟨d,h1,h2,v',h3,h4⟩:=h;exact ⟨d,h1,h2,.inl ⟨v',by rw [he];simp [h3],h4⟩⟩
theorem GS {t:TypeId} {b:Nat} (h:bytesOf P t=some b) (w:World):∃ i,(typeInfo t).run P w= .ok i w/\i.bytes=b:=by
 unfold bytesOf at h;split at h
 ·rename_i i hi;injection h with h;exact ⟨i,by simp [typeInfo,hi],h⟩
 ·simp at h
theorem jm {zv:Array Value} {z:List AV} {sz n:Nat} (uJ:PV c z zv) (hlen:z.length=sz) (arr:Array Value)
 (m7:n*sz≠0->arr=(Array.range (n*sz)).map (zv[· % zv.size]!)) (h0:n*sz=0->arr.size=0):
 Row c sz (List.replicate n z) arr/\arr.size=n*sz:=by
 by_cases h:n*sz=0
 ·refine ⟨fun i hi=>?_,by rw [h0 h,h]⟩;simp at hi;have hz:sz=0:=by
   rcases Nat.mul_eq_zero.1 h with e | e
   ·omega
   ·exact e
  simp only [List.getElem_replicate];exact ⟨hlen,fun j hj=>by omega⟩
 ·rw [m7 h];exact ⟨y9 zv z sz n uJ hlen,by simp⟩
theorem Pr (h:SR F c) {G:Nat->List AV} {t:List AV} {a:Act} (ht:TR c t a.tmps) (hg:gU c G) (o:Oper) {v:AV} {H':List Obj} {pl:Nat} (dg:Room c.H pl)
 (hw:evalW G t c.H pl (cj P o)=some (v,H')):VF P F c a o v H':=by
 have E:=fun x=>vL ht hg x
 unfold cj at hw
 cases hop:o.op with
 | box ty x=>
  simp only [hop,evalW] at hw;split at hw
  case isFalse=>simp at hw
  rename_i hone;simp only [za2,za4] at hw;obtain ⟨rfl,rfl⟩:=hw;obtain ⟨uJ,_⟩:=u9 (E x) hone;obtain ⟨d,d1,d2,d3,d4⟩:=Eb h dg _ _ ty uJ;refine cM (s:=Instr.box ty (a.eval x)) (by simp only [execOp,hop]) ⟨d,d2,d3,_,?_,d4⟩;rw [d1];simp [Instr.box,newVar,dx]
 | alloc ty=>
  simp only [hop] at hw;split at hw
  case h_2=>simp [evalW] at hw
  rename_i z hz;simp only [evalW] at hw;split at hw
  case isFalse=>simp at hw
  rename_i hone;simp only [za2,za4] at hw;obtain ⟨rfl,rfl⟩:=hw;obtain ⟨i,zv,hi,Cu,rfl⟩:=ep hz;obtain ⟨d,d1,d2,d3,d4⟩:=Eb h dg _ _ ty (mH zv);refine cM (s:=Instr.alloc ty true (.tuple #[])) (by simp only [execOp,hop]) ⟨d,d2,d3,_,?_,d4⟩;rw [d1];simp [Instr.alloc,newVar,dx,ff hi Cu]
 | buildSlice ty len parts=>
  simp only [hop] at hw;split at hw
  case h_2=>simp [evalW] at hw
  rename_i e hu;split at hw
  case h_2=>simp [evalW] at hw
  rename_i sz z hsz hz;split at hw
  ·rename_i abp;obtain ⟨rfl,_⟩:=abp;simp only [evalW] at hw;split at hw
   case isFalse=>simp at hw
   rename_i hc;obtain ⟨hzl,hone,ZV⟩:=hc;split at hw
   case h_2=>simp at hw
   rename_i es oR;split at hw
   case isFalse=>simp at hw
   rename_i JB;simp only [za2,za4] at hw;obtain ⟨rfl,rfl⟩:=hw;obtain ⟨i,zv,hi,Cu,rfl⟩:=ep hz;have Qc:es.length=len:=by rw [mO 1 _ _ _ oR];simp
   have Mj:¬ (len*1 > 2 ^ 24):=by omega
   obtain ⟨hrow,hsize⟩:=jm (c:=c) (sz:=1) (n:=len) (mH zv) hzl
    ((Array.range (len*1)).map ((if len*1=0 then #[] else zv.cells)[· % (if len*1=0 then (#[]:Array Value) else zv.cells).size]!))
    (fun hne=>by rw [if_neg hne]) (fun h0=>by rw [Array.size_map,Array.size_range];exact h0)
   obtain ⟨acc,h1,h2,h3⟩:=tO (c:=c) 1 (parts.toList.map fun (x:Nat×Operand)=>(x.1,(cx x.2).ev G t)) (parts.toList.map fun (x:Nat×Operand)=>(x.1,a.eval x.2)) _ _ es hrow
    (by simp [hsize]) (by simp) (fun i hi hj=>⟨by simp,by simp only [zay];exact E _⟩) (by simpa [Function.comp_def] using oR)
   obtain ⟨d,d1,d2,d3,d4⟩:=SL h 1 len es acc e (fun i j hi hj=>cJ (iu JB i hi) j hj) (by omega) h2;refine cM (s:=Instr.buildSlice ty len (parts.map fun (i,x)=>(i,a.eval x))) (by simp only [execOp,hop]) ⟨d,d2,d3,_,?_,by rw [Qc] at d4;exact d4⟩;rw [d1];have dg:(parts.map fun (i,x)=>(i,a.eval x)).toList=parts.toList.map fun (x:Nat×Operand)=>(x.1,a.eval x.2):=by simp
   unfold Instr.buildSlice;simp only [Sem.run_bind,aA hu,Result.andThen_ok,bZ hsz,Sem.run_ite,Mj,if_false,dg];by_cases h0:len*1=0
   ·simp only [h0,if_true,Sem.run_pure,Result.andThen_ok] at h1 ⊢;rw [h1];simp [dx]
   ·simp only [h0,if_false,ff hi Cu,Result.andThen_ok,Sem.run_pure] at h1 ⊢;rw [h1];simp [dx]
  ·skip
   simp only [evalW] at hw;split at hw
   case isFalse=>simp at hw
   rename_i hc;obtain ⟨hzl,hone,ZV⟩:=hc;split at hw
   case h_2=>simp at hw
   rename_i es oR;simp only [za2,za4] at hw;obtain ⟨rfl,rfl⟩:=hw;obtain ⟨i,zv,hi,Cu,rfl⟩:=ep hz;have Qc:es.length=len:=by rw [mO sz _ _ _ oR];simp
   have Mj:¬ (len*sz > 2 ^ 24):=by omega
   obtain ⟨hrow,hsize⟩:=jm (c:=c) (sz:=sz) (n:=len) (mH zv) hzl
    ((Array.range (len*sz)).map ((if len*sz=0 then #[] else zv.cells)[· % (if len*sz=0 then (#[]:Array Value) else zv.cells).size]!))
    (fun hne=>by simp [hne]) (fun h0=>by simp [h0])
   obtain ⟨acc,h1,h2,h3⟩:=tO (c:=c) sz (parts.toList.map fun (x:Nat×Operand)=>(x.1,(cx x.2).ev G t)) (parts.toList.map fun (x:Nat×Operand)=>(x.1,a.eval x.2)) _ _ es hrow
    (by simp [hsize]) (by simp) (fun i hi hj=>⟨by simp,by simp only [zay];exact E _⟩) (by simpa [Function.comp_def] using oR)
   obtain ⟨d,d1,d2,d3,d4⟩:=mL h dg len sz es acc e (by rw [h3,hsize]) (by omega) h2;refine cM (s:=Instr.buildSlice ty len (parts.map fun (i,x)=>(i,a.eval x))) (by simp only [execOp,hop]) ⟨d,d2,d3,_,?_,by rw [Qc] at d4;exact d4⟩;rw [d1];have dg:(parts.map fun (i,x)=>(i,a.eval x)).toList=parts.toList.map fun (x:Nat×Operand)=>(x.1,a.eval x.2):=by simp
   unfold Instr.buildSlice;simp only [Sem.run_bind,aA hu,Result.andThen_ok,bZ hsz,Sem.run_ite,Mj,if_false,dg];by_cases h0:len*sz=0
   ·simp only [h0,if_true,Sem.run_pure,Result.andThen_ok] at h1 ⊢;rw [h1];simp [dx]
   ·simp only [h0,if_false,ff hi Cu,Result.andThen_ok,Sem.run_pure] at h1 ⊢;rw [h1];simp [dx]
 | store ty p x=>
  simp only [hop] at hw;split at hw
  case h_2=>simp [evalW] at hw
  rename_i n hn;simp only [evalW] at hw;split at hw
  case h_2=>simp at hw
  rename_i H2 hs;simp only [za2,za4] at hw;obtain ⟨rfl,rfl⟩:=hw;obtain ⟨d,d1,d2,d3⟩:=SM h hn (E p) (E x) hs;refine ⟨d,d1,d2,.inr ⟨?_,rfl⟩⟩;simp only [execOp,hop];simp [d3]
 | makeSlice ty l k=>
  simp only [hop] at hw;split at hw
  case h_2=>simp [evalW] at hw
  rename_i e hu;split at hw
  case h_2=>simp [evalW] at hw
  rename_i sz z b hsz hz hb;simp only [evalW] at hw;split at hw
  case h_2=>simp at hw
  rename_i n m hl hk;split at hw
  case isFalse=>simp at hw
  rename_i hc;obtain ⟨rfl,h0,hbb,afd,hzl,hone⟩:=hc;simp only [za2,za4] at hw;obtain ⟨rfl,rfl⟩:=hw;obtain ⟨i,zv,hi,Cu,rfl⟩:=ep hz;have Qc:=E l;have hek:=E k;rw [hl] at Qc;rw [hk] at hek;generalize hlv:a.eval l=lv at Qc;generalize hkv:a.eval k=kv at hek
  cases Qc;cases hek;have hwrap:IntKind.i64.wrap n=n:=by
   have h40:(2:Int)^40=1099511627776:=by decide
   unfold IntKind.wrap;have e1:(2:Int) ^ IntKind.i64.bits=18446744073709551616:=by decide
   have e2:(2:Int) ^ (IntKind.i64.bits - 1)=9223372036854775808:=by decide
   simp only [e1,e2,IntKind.signed];have e3:n % 18446744073709551616=n:=Int.emod_eq_of_lt h0 (by omega);rw [e3,if_neg];simp only [zaS,decide_eq_true_eq];omega
  obtain ⟨ti,Fw,htb⟩:=GS hb c.w;obtain ⟨hrow,hsize⟩:=jm (c:=c) (sz:=sz) (n:=n.toNat) (mH zv) hzl
   ((Array.range (n.toNat*sz)).map ((if n.toNat*sz=0 then #[] else zv.cells)[· % (if n.toNat*sz=0 then (#[]:Array Value) else zv.cells).size]!))
   (fun hne=>by simp [hne]) (fun h0=>by simp [h0])
  obtain ⟨d,d1,d2,d3,d4⟩:=mL h dg n.toNat sz (List.replicate n.toNat (zv.cells.toList.map simple)) _ e hsize (by simp) hrow;rw [zap] at d4;refine cM (s:=Instr.makeSlice ty (a.eval l) (a.eval k)) (by simp only [execOp,hop]) ⟨d,d2,d3,_,?_,d4⟩;rw [d1,hlv,hkv];have ZV:¬ ((b:Int)*n > 2 ^ 48):=by
   have h48:(2:Int)^48=281474976710656:=by decide
   have h40:(2:Int)^40=1099511627776:=by decide
   rw [Int.mul_comm];omega
  have hneg:¬ n < 0:=by omega
  unfold Instr.makeSlice;simp only [Sem.run_bind,aA hu,Result.andThen_ok,asInt,asIntOf,Sem.run_pure,Fw,htb,hwrap];have abq:((decide (n < 0)||decide ((b:Int)*n > 2 ^ 48))||decide (n < 0)||decide (n > n))=false:=by
   simp [hneg];omega
  simp only [Sem.run_ite];rw [if_neg (by simp only [Bool.not_eq_true];simpa using abq)];simp only [Sem.run_bind,run_askRoom,Result.andThen_ok,bZ hsz];by_cases YO:n.toNat*sz=0
  ·simp only [YO,if_true,Sem.run_bind,Sem.run_pure,Result.andThen_ok,dx]
  ·simp only [YO,if_false,Sem.run_bind,ff hi Cu,Result.andThen_ok,Sem.run_pure,dx]
 | call cl=>
  simp only [hop] at hw;split at hw
  ·simp [evalW] at hw
  ·simp [evalW] at hw
  ·rename_i mu;split at hw
   case h_2=>simp [evalW] at hw
   rename_i ty x KR hx;split at hw
   ·simp [evalW] at hw
   ·simp [evalW] at hw
   ·simp [evalW] at hw
   ·rename_i kt et hu;simp only [evalW] at hw;split at hw
    case h_2=>simp at hw
    rename_i r hr;simp only [za2,za4] at hw;obtain ⟨rfl,rfl⟩:=hw;unfold jv at hr;split at hr
    case h_2=>simp at hr
    rename_i es he;injection hr with hr;subst hr
    have hex:execOp a.eval o=(do pure (.value (<- Builtin.len_ cl.argTypes o.type (cl.args.map a.eval)))):=by
     simp only [execOp,hop,resolve,mu];rfl
    have gF:cl.args.map a.eval=#[a.eval x]:=by apply zbp;simp [hx]
    refine cM hex ⟨c,rfl,dR.refl h,_,?_,.int _ _⟩;rw [gF];rcases tq h (E x) he with ⟨e1,rfl⟩ | ⟨id,b,l,q,_,e1,rfl,hid,hb,hl⟩
    ·simp [Builtin.len_,KR,e1,aA hu,goInt]
    ·have hls:l.size=es.length:=by simpa using hl.1
     simp [Builtin.len_,KR,e1,aA hu,goInt,getObj,Sem.run,hb,hls]
   ·simp [evalW] at hw
  ·rename_i mu;split at hw
   case h_2=>simp [evalW] at hw
   rename_i ty u s x KR hut hargs;have hex:execOp a.eval o=(do pure (.value (<- Builtin.append_ cl.argTypes o.type (cl.args.map a.eval)))):=by
    simp only [execOp,hop,resolve,mu];rfl
   have gF:cl.args.map a.eval=#[a.eval s,a.eval x]:=by apply zbp;simp [hargs]
   have oZ:∀ (e:TypeId) (d:TypeDesc) (sz bytes:Nat) (z:List AV),P.underlying ty=some (.slice e)->P.underlying u=some d->((∃ e',d= .slice e')\/d= .string)->
    cW P e=some sz->bytesOf P e=some bytes->zeroOf P e=some z->z.length=sz->append c.H pl sz bytes ((cx s).ev G t) ((cx x).ev G t)=some (v,H')->VF P F c a o v H':=by
    intro e d sz bytes z UH Fx hd hsz hby hz hzl oZ;obtain ⟨dd,e1,e2,v',e3,e4⟩:=Pv (ty:=o.type) h dg UH Fx hd hsz hby hz hzl (E s) (E x) oZ;refine cM (s:=Builtin.append_ cl.argTypes o.type (cl.args.map a.eval)) hex ⟨dd,e1,e2,v',?_,e4⟩;rw [gF,<-e3];simp only [Builtin.append_,KR,hut,zbz,zaq,zbE]
   split at hw
   ·rename_i e e' UH Fx;split at hw
    case h_2=>simp [evalW] at hw
    rename_i sz b z hsz hb hz;split at hw
    case isFalse=>simp [evalW] at hw
    rename_i hzl;simp only [evalW] at hw;exact oZ e _ sz b z UH Fx (.inl ⟨e',rfl⟩) hsz hb hz hzl hw
   ·rename_i e UH Fx;split at hw
    case h_2=>simp [evalW] at hw
    rename_i sz b z hsz hb hz;split at hw
    case isFalse=>simp [evalW] at hw
    rename_i hzl;simp only [evalW] at hw;exact oZ e _ sz b z UH Fx (.inr rfl) hsz hb hz hzl hw
   ·rename_i e kd UH Fx;split at hw
    case h_2=>simp [evalW] at hw
    rename_i sz b z hsz hb hz;simp only [evalW] at hw;split at hw
    case h_2=>simp at hw
    rename_i m hs hm;split at hw
    case isFalse=>simp at hw
    rename_i hc;obtain ⟨h0,hbb,afe,hzl,hone⟩:=hc;simp only [za2,za4] at hw;obtain ⟨rfl,rfl⟩:=hw;obtain ⟨i,zv,hi,Cu,rfl⟩:=ep hz;have hsv:=E s;have AY:=E x;rw [hs] at hsv;rw [hm] at AY;generalize aff:a.eval s=sv at hsv gF;generalize afg:a.eval x=xv at AY gF
    cases hsv;cases AY;obtain ⟨n,rfl⟩:∃ n:Nat,m=n:=⟨m.toNat,by omega⟩;have h40:(2:Int)^40=1099511627776:=by decide
    have afh:(2:Nat)^40=1099511627776:=by decide
    have hzs:zv.cells.size=sz:=by simpa using hzl
    obtain ⟨cap,rest,q,hcap,lq,hrun⟩:=Cn (P:=P) (ty:=o.type) UH Fx hsz hb hi Cu hzs (m:=n) c.w (by omega)
     (by have:((n*b:Nat):Int)=(n:Int)*b:=by simp
         omega) (by omega)
    obtain ⟨hrow,hsize⟩:=jm (c:=c) (sz:=sz) (n:=n) (mH zv) hzl (if n*sz=0 then #[] else Builtin.zeroCells zv.cells n)
     (fun hne=>by rw [if_neg hne];unfold Builtin.zeroCells;rw [hzs]) (fun h0=>by simp [h0])
    obtain ⟨hS,KT,hF⟩:=h.drawn q;have T9:Row c sz ([]++List.replicate n (zv.cells.toList.map simple)) (#[]++(if n*sz=0 then #[] else Builtin.zeroCells zv.cells n)++rest):=
     eK (fun i hi=>by simp at hi) (by simp) hrow (by simpa using hsize)
    simp only [zc3,Array.empty_append] at T9;obtain ⟨dd,d1,d2,d3,d4⟩:=mL hS dg cap sz (List.replicate n (zv.cells.toList.map simple)) ((if n*sz=0 then #[] else Builtin.zeroCells zv.cells n)++rest) e (by
     rw [Array.size_append,hsize,lq,<-zaC];congr 1;omega) (by simpa using hcap) (Row.hY T9 KT)
    rw [zap] at d4;simp only [zaw];refine cM (s:=Builtin.append_ cl.argTypes o.type (cl.args.map a.eval)) hex ⟨dd,d2,dR.trans ⟨hS,KT,hF⟩ d3,_,?_,d4⟩;rw [gF,d1];have:=hrun;simp only [Builtin.append_,KR,hut,zbz,zaq,zbE] at this ⊢;exact this
   ·simp [evalW] at hw
  ·simp [evalW] at hw
  ·simp [evalW] at hw
  ·split at hw
   ·split at hw
    ·simp [evalW] at hw
    ·simp [evalW] at hw
   ·simp [evalW] at hw
  ·simp [evalW] at hw
 | binOp op ty x y yt=>
  simp only [hop] at hw;split at hw
  ·unfold fc at hw;(repeat' split at hw)<;>simp [evalW] at hw
  ·unfold fc at hw;(repeat' split at hw)<;>simp [evalW] at hw
  ·simp [evalW] at hw
 | makeMap ty r=>
  cases r with
  | some r=>simp [hop,evalW] at hw
  | none=>
   simp only [hop,evalW,za2,za4] at hw;obtain ⟨rfl,rfl⟩:=hw;obtain ⟨d,d1,d2,d3,d4,_⟩:=LF h dg (.mp []) rfl (.map #[] 0) (by simp) (fun d _=>⟨#[],0,rfl,rfl,fun i hi=>by simp at hi⟩);refine cM (s:=Instr.makeMap ty ((none:Option Operand).map a.eval)) (by simp only [execOp,hop]) ⟨d,d2,d3,_,?_,.mp _ _ d4⟩;rw [d1];rfl
 | lookup ty m x ok=>
  simp only [hop] at hw;split at hw
  case h_2=>simp [evalW] at hw
  rename_i kt et ht;split at hw
  case h_2=>simp [evalW] at hw
  rename_i k z hk hz;obtain ⟨i,hi,hz⟩:∃ i,P.info? et=some i/\i.zero=some z:=by
   cases hi:P.info? et with
   | none=>rw [hi] at hz;simp at hz
   | some i=>rw [hi] at hz;exact ⟨i,rfl,hz⟩
  simp only [evalW] at hw;split at hw
  case h_2=>simp at hw
  rename_i r hr;simp only [za2,za4] at hw;obtain ⟨rfl,rfl⟩:=hw;obtain ⟨v',e1,e2⟩:=V7 h ht hk hi hz (E m) (E x) hr;exact cM (s:=Instr.lookup ty (a.eval m) (a.eval x) ok) (by simp only [execOp,hop]) ⟨c,rfl,dR.refl h,v',e1,e2⟩
 | mapUpdate ty m x u=>
  simp only [hop] at hw;split at hw
  case h_2=>simp [evalW] at hw
  rename_i kt et ht;split at hw
  case h_2=>simp [evalW] at hw
  rename_i k hk;simp only [evalW] at hw;split at hw
  case h_2=>simp at hw
  rename_i H2 hs;simp only [za2,za4] at hw;obtain ⟨rfl,rfl⟩:=hw;obtain ⟨d,d1,d2,d3⟩:=V8 h ht hk (E m) (E x) (E u) hs;refine ⟨d,d1,d2,.inr ⟨?_,rfl⟩⟩;simp only [execOp,hop];simp [d3]
 | range ty x=>
  simp only [hop] at hw;split at hw
  case h_2=>simp [evalW] at hw
  rename_i hu;simp only [evalW] at hw;split at hw
  case h_2=>simp at hw
  rename_i s hs;simp only [za2,za4] at hw;obtain ⟨rfl,rfl⟩:=hw;have hx:=E x;rw [hs] at hx;generalize AY:a.eval x=xv at hx
  cases hx;obtain ⟨d,d1,d2,d3,d4,_⟩:=LF h dg (.it s 0) rfl (.stringIter ⟨s.toArray⟩ 0) (by simp) (fun d _=>rfl);refine cM (s:=Instr.range ty (a.eval x)) (by simp only [execOp,hop]) ⟨d,d2,d3,_,?_,.qB _ _ d4⟩;rw [d1,AY];exact run_range_string c.w ty _ hu
 | next x b=>
  cases b with
  | false=>simp [hop,evalW] at hw
  | true=>
   simp only [hop,evalW] at hw;obtain ⟨d,d1,d2,v',e1,e2⟩:=aaf (P:=P) (ty:=o.type) h (E x) hw;exact cM (s:=Instr.next (a.eval x) true o.type) (by simp only [execOp,hop]) ⟨d,d1,d2,v',e1,e2⟩
 | convert src dst x=>
  simp only [hop] at hw;split at hw
  ·simp [evalW] at hw
  ·simp [evalW] at hw
  ·rename_i e hs hd;split at hw
   case h_2=>simp [evalW] at hw
   rename_i he;simp only [evalW] at hw;split at hw
   case h_2=>simp at hw
   rename_i r hr;simp only [za2,za4] at hw;obtain ⟨rfl,rfl⟩:=hw;obtain ⟨v',e1,e2⟩:=aag (P:=P) h (E x) hr;refine cM (s:=convert src dst (a.eval x)) (by simp only [execOp,hop]) ⟨c,rfl,dR.refl h,v',?_,e2⟩;have uL:∃ p l k,a.eval x= .slice p l k:=by
    generalize a.eval x=xv at e1
    cases xv<;>first | exact ⟨_,_,_,rfl⟩ | (simp [Conv.bytesToString] at e1)
   obtain ⟨p,l,k,hp⟩:=uL;rw [<-e1,hp];unfold convert;simp only [Sem.run_bind,aA hs,aA hd,Result.andThen_ok]
   cases p<;>simp only [Sem.run_bind,aA he,Result.andThen_ok]
  ·simp [evalW] at hw
 | makeFunc fn first cap=>cases fn<;>simp only [hop] at hw<;>(repeat' split at hw)<;>simp [evalW] at hw
 | slice ty x lo hi mx=>cases mx<;>simp only [hop] at hw<;>(repeat' split at hw)<;>simp [evalW] at hw
 | _=>simp only [hop] at hw;(repeat' split at hw)<;>simp [evalW] at hw
end
end Go.Am
end
