/- Appends, and all operations that make or change memory, joined. Condition: the state's relation. -/
import Derived.Test.YtafgdbaekppjcaaGreatDoorAmQ
set_option linter.unusedSectionVars false
set_option linter.unusedVariables false
set_option linter.unusedSimpArgs false
namespace Go.Am
section
variable {P:Program} {F:Fo} {c:Ctx}
theorem fits {need old bytes:Nat} (h:old < need) (hb:need*bytes<=2 ^ 40):¬ (Builtin.nextslicecap need old*bytes > 2 ^ 48):=by
 have h1:(2:Nat)^40=1099511627776:=by decide
 have:=growslice_fits (bytes:=bytes) h (by rw [h1] at hb;omega);have h2:(2:Nat)^48=281474976710656:=by decide
 omega
theorem qD {t u ty e:TypeId} {sz:Nat} {d:TypeDesc} (ht:P.underlying t=some (.slice e)) (hu:P.underlying u=some d) (hd:(∃ e',d= .slice e')\/d= .string)
 (hsz:cV P e=some sz) {xv:Value} {m:Nat} {arr:Array Value} (w:World) (hl:(Builtin.lenOf xv).run P w= .ok m w) (hf:(Builtin.firstCells sz m xv).run P w= .ok arr w)
 {b sLen sCap:Nat} (hroom:sLen+m<=sCap) {w':World} (hst:(storeCells ⟨b,sLen*sz,none⟩ arr.toList).run P w= .ok () w'):
 (Builtin.append_ #[t,u] ty #[.slice (some ⟨b,0,none⟩) sLen sCap,xv]).run P w= .ok (.slice (some ⟨b,0,none⟩) (sLen+m) sCap) w':=by
 unfold Builtin.append_;rcases hd with ⟨e',rfl⟩ | rfl
 all_goals
  simp only [List.getElem?_toArray,List.getElem?_cons_zero,List.getElem?_cons_succ,Sem.run_bind,aC ht,aC hu,Result.andThen_ok,b8 hsz,Sem.run_pure,
   Bool.false_eq_true,if_false,hl,hroom,if_true,Bool.not_false,hf,add_eq,Nat.zero_add,hst]
theorem lB {t u ty e:TypeId} {sz bytes:Nat} {d:TypeDesc} (ht:P.underlying t=some (.slice e)) (hu:P.underlying u=some d) (hd:(∃ e',d= .slice e')\/d= .string)
 (hsz:cV P e=some sz) (hby:bytesOf P e=some bytes) {z:List AV} (hz:zeroOf P e=some z) (hzl:z.length=sz) {xv:Value} {m:Nat} {arr old:Array Value} (w:World)
 (hl:(Builtin.lenOf xv).run P w= .ok m w) (hf:∀ w':World,w'.heap=w.heap->(Builtin.firstCells sz m xv).run P w'= .ok arr w')
 {base:Option Addr} {sLen sCap:Nat} (hfo:∀ w':World,w'.heap=w.heap->(Builtin.firstCells sz sLen (.slice base sLen sCap)).run P w'= .ok old w')
 (hroom:sCap < sLen+m) (Ag:(sLen+m)*bytes<=2 ^ 40) (CD:sLen+m<=2 ^ 40):
 ∃ cap rest k,sLen+m<=cap/\rest.size=(cap - (sLen+m))*sz/\
  (Builtin.append_ #[t,u] ty #[.slice base sLen sCap,xv]).run P w=
   .ok (.slice (some ⟨w.heap.size,0,none⟩) (sLen+m) cap) { w with drawn:=k,heap:=w.heap.push (.cells (old++arr++rest) e) }:=by
 obtain ⟨i,zv,hi,z7,rfl⟩:=dS hz;have Yt:i.bytes=bytes:=by
  unfold bytesOf at hby;rw [hi] at hby;injection hby
 let cap:=(Question.appendCap (sLen+m) sCap e).cut (w.tape w.drawn (.appendCap (sLen+m) sCap e));have hge:sLen+m<=cap:=by simp [cap,Question.cut]
 refine ⟨cap,Builtin.zeroCells zv.cells (cap - (sLen+m)),w.drawn+1,hge,?_,?_⟩
 ·rw [size_zeroCells];congr 1;simpa using hzl
 ·have h63:¬ (((sLen+m:Nat):Int) > IntKind.i64.max/\(False\/bytes=0)):=by
   have h2:IntKind.i64.max=9223372036854775807:=by decide
   have h3:(2:Nat)^40=1099511627776:=by decide
   rw [h2];omega
  have h48:=fits (bytes:=bytes) hroom Ag;have CA:∀ w,(typeInfo e).run P w= .ok i w:=fun w=>by simp [typeInfo,hi]
  have QX:(Question.appendCap (sLen+m) sCap e).forced=false:=rfl;have Xl:=hfo { w with drawn:=w.drawn+1 } rfl;have hfn:=hf { w with drawn:=w.drawn+1 } rfl;unfold Builtin.append_;rcases hd with ⟨e',rfl⟩ | rfl
  all_goals
   simp only [List.getElem?_toArray,List.getElem?_cons_zero,List.getElem?_cons_succ,Sem.run_bind,aC ht,aC hu,Result.andThen_ok,b8 hsz,Sem.run_pure,
    Bool.false_eq_true,if_false,hl,Nat.not_le.2 hroom,CA,Yt,h48,Sem.run_ite,run_choose,QX,run_askRoom,eO hi z7]
   rw [if_neg h63];simp only [Result.andThen_ok,Xl,Bool.not_false,if_true,hfn,dg];rfl
theorem ez {es new:List (List AV)} {sz:Nat} {old arr rest:Array Value} (hold:Row c sz es old) (hos:old.size=es.length*sz) (hnew:Row c sz new arr) (has:arr.size=new.length*sz):
 Row c sz (es++new) (old++arr++rest):=by
 intro i hi;simp at hi;by_cases h:i < es.length
 ·simp only [List.getElem_append_left h];obtain ⟨g1,g2⟩:=hold i h;refine ⟨g1,fun j hj=>?_⟩;obtain ⟨u,hu,hv⟩:=g2 j hj;refine ⟨u,?_,hv⟩;have hlt:i*sz+j < old.size:=by
   rcases Nat.lt_or_ge (i*sz+j) old.size with e | e
   ·exact e
   ·rw [Array.getElem?_eq_none e] at hu;simp at hu
  rw [Array.append_assoc,Array.getElem?_append_left hlt];exact hu
 ·have h2:es.length<=i:=by omega
  simp only [List.getElem_append_right h2];obtain ⟨g1,g2⟩:=hnew (i - es.length) (by omega);refine ⟨g1,fun j hj=>?_⟩;obtain ⟨u,hu,hv⟩:=g2 j hj;refine ⟨u,?_,hv⟩;have hm:i*sz=es.length*sz+(i - es.length)*sz:=by rw [<-Nat.add_mul];congr 1;omega
  have hlt:(i - es.length)*sz+j < arr.size:=by
   rcases Nat.lt_or_ge ((i - es.length)*sz+j) arr.size with e | e
   ·exact e
   ·rw [Array.getElem?_eq_none e] at hu;simp at hu
  rw [Array.append_assoc,Array.getElem?_append_right (by omega),Array.getElem?_append_left (by omega)];rw [<-hu];congr 1;omega
theorem V.drawn {d:Ctx} {x:AV} {v:Value} (h:V d x v) (w':World) (hw:w'.heap=d.w.heap):V { d with w:=w' } x v:=
 V.mono (c:=d) (d:={ d with w:=w' }) (fun b hb _=>⟨by simp only [hw],hb⟩) (fun _ _ _ _ _ h=>h) (fun _ _ _ _ _ h=>h) (fun _ _ _ _ _ _ h=>h) (fun _ _ h=>h) h
theorem SR.drawn (h:SR F c) (k:Nat):dD F c { c with w:={ c.w with drawn:=k } }:=by
 have hw:({ c.w with drawn:=k }:World).heap=c.w.heap:=rfl;generalize hw':({ c.w with drawn:=k }:World)=w' at hw;have GN:c7 c.w w':=by subst hw';exact ⟨rfl,rfl,rfl,fun _=>rfl⟩
 refine ⟨⟨⟨?_,h.hr.inj⟩,h.hO,fun b hf=>by simp only [hw];exact h.hF b hf,h.eD,h.x.keep (fun id o h1 h2=>⟨h1,rfl,by simp only [hw]⟩) fun x v hx=>hx.drawn w' hw⟩,fun x v hx=>hx.drawn w' hw,fun n=>⟨by simp [hw],fun b _ _ _=>by simp [hw],fun x v _ hx=>hx.drawn w' hw,fun b ho=> .inl ho,fun h=>h,GN,fun b hb=> .inl hb⟩⟩;intro id nl sz es h1 h2;obtain ⟨cells,elem,g1,g2,g3,g4,g5⟩:=h.hr.back id nl sz es h1 h2;refine ⟨cells,elem,by simp only [hw];exact g1,g2,g3,g4,fun i hi=>⟨(g5 i hi).1,fun j hj=>?_⟩⟩;obtain ⟨u,hu,hv⟩:=(g5 i hi).2 j hj;exact ⟨u,hu,hv.drawn w' hw⟩
theorem Row.gD {d:Ctx} {sz:Nat} {es:List (List AV)} {cells:Array Value} (h:Row c sz es cells) (hv:∀ x v,V c x v->V d x v):Row d sz es cells:=by
 intro i hi;obtain ⟨g1,g2⟩:=h i hi;refine ⟨g1,fun j hj=>?_⟩;obtain ⟨u,hu,hV⟩:=g2 j hj;exact ⟨u,hu,hv _ _ hV⟩
theorem vG (h:SR F c) {id:Nat} {nl fl:Fl} {sz:Nat} {es:List (List AV)} (hid:c.H[id]?=some (.live nl sz es)) (hn:nl= .nil↔fl= .nil)
 (hp:∀ j bU bt bw,j≠id->c.H[j]?=some (.live bU bt bw)->¬(bU= .nil/\bw=[])->c.ι j=c.ι id->¬(nl= .nil/\es=[])->(id < j->fl.old=true)/\(j < id->fl.Ad=true)):
 ∃ d:Ctx,d.w=c.w/\d.H=c.H.set id (.live fl sz es)/\dD F c d/\d.ι=c.ι/\d.K=c.K:=by
 have cu:=bJ hid;let H':=c.H.set id (.live fl sz es);have aN:∀ (i:Nat) bU bt bw,H'[i]?=some (.live bU bt bw)->∃ wD,c.H[i]?=some (.live wD bt bw)/\(wD= .nil↔bU= .nil)/\(i≠id->wD=bU):=by
  intro i bU bt bw hs;by_cases hi:i=id
  ·subst hi;simp only [H',List.getElem?_set_self cu,Option.some.injEq,Obj.live.injEq] at hs;obtain ⟨rfl,rfl,rfl⟩:=hs;exact ⟨nl,hid,hn,fun q=>(q rfl).elim⟩
  ·refine ⟨bU,?_,Iff.rfl,fun _=>rfl⟩;rw [<-hs];simp only [H'];rw [List.getElem?_set_ne (fun q=>hi q.symm)]
 have hown:∀ b,bB H' c.ι b->bB c.H c.ι b:=by
  rintro b ⟨i,bU,bt,bw,h1,h2,h3⟩;obtain ⟨wD,e1,e2,_⟩:=aN _ _ _ _ h1;exact ⟨i,wD,bt,bw,e1,fun q=>h2 ⟨e2.1 q.1,q.2⟩,h3⟩
 let d:Ctx:=⟨c.w,fun b=>F b\/bB H' c.ι b,c.ι,c.K,H'⟩;have ct:∀ i,Has c i->Has d i:=by
  rintro i ⟨h1,h2⟩;refine ⟨by simpa [d,H'] using h1,fun e=>?_⟩;by_cases hi:i=id
  ·subst hi;simp [d,H',cu] at e
  ·refine h2 ?_;rw [<-e];simp only [d,H'];rw [List.getElem?_set_ne (fun q=>hi q.symm)]
 have hsp:∀ j o,d.H[j]?=some o->o.sp=true->c.H[j]?=some o/\d.ι j=c.ι j/\d.w.heap[c.ι j]?=c.w.heap[c.ι j]?:=by
  intro j o h1 h2;refine ⟨?_,rfl,rfl⟩;by_cases hj:j=id
  ·subst hj;simp [d,H',cu] at h1;subst h1;simp [Obj.sp] at h2
  ·rw [<-h1];simp only [d,H'];rw [List.getElem?_set_ne (fun q=>hj q.symm)]
 have hV:∀ x v,V c x v->V d x v:=by
  intro x v hv;refine V.mono ?_ ?_ ?_ ?_ (fun i b hs=>hs.keep ct hsp) hv
  ·intro b hnb _;refine ⟨rfl,?_⟩;rintro (hf | ho)
   ·exact hnb ((h.hO b).2 (.inl hf))
   ·exact hnb ((h.hO b).2 (.inr (hown b ho)))
  ·rintro i e o l v ⟨g1,g2,g3⟩;refine ⟨ct i g1,g2,fun bU bt bw hs=>?_⟩;obtain ⟨wD,e1,e2,_⟩:=aN _ _ _ _ hs;obtain ⟨k1,k2⟩:=g3 wD bt bw e1;refine ⟨k1,fun he=>?_⟩;obtain ⟨k3,k4⟩:=k2 he;refine ⟨k3,?_⟩;rcases k4 with ⟨q1,q2,q3⟩ | ⟨q1,q2⟩
   ·exact .inl ⟨e2.1 q1,q2,q3⟩
   ·exact .inr ⟨fun q=>q1 ⟨e2.2 q.1,q.2⟩,q2⟩
  ·rintro i ext e o v ⟨g1,q,g2,g3,g4⟩;refine ⟨ct i g1,q,g2,g3,fun bU bt bw hs=>?_⟩;obtain ⟨wD,e1,_⟩:=aN _ _ _ _ hs;exact g4 wD bt bw e1
  ·rintro i ext e o l v ⟨g1,q,g2,g3,g4⟩;refine ⟨ct i g1,q,g2,g3,fun bU bt bw hs=>?_⟩;obtain ⟨wD,e1,_⟩:=aN _ _ _ _ hs;exact g4 wD bt bw e1
 refine ⟨d,rfl,rfl,⟨⟨⟨?_,?_⟩,fun b=>Iff.rfl,h.hF,fun b ho=>h.eD b (hown b ho),h.x.keep hsp hV⟩,hV,fun n=>⟨Nat.le_refl _,fun _ _ _ _=>rfl,fun x v _ hv=>hV x v hv,fun b ho=> .inl (hown b ho),fun hn=>by simpa [d,H'] using hn,c7.refl _,fun b hb=> .inl (cL hsp hb)⟩⟩,rfl,rfl⟩
 ·intro i bU bt bw hs hbk;obtain ⟨wD,hs',e2,_⟩:=aN _ _ _ _ hs;obtain ⟨cells,elem,g1,g2,g3,g4,g5⟩:=h.hr.back i wD bt bw hs' (fun q=>hbk ⟨e2.1 q.1,q.2⟩);refine ⟨cells,elem,g1,g2,g3,.inr ⟨i,bU,bt,bw,hs,hbk,rfl⟩,fun q hq=>⟨(g5 q hq).1,fun j hj=>?_⟩⟩;obtain ⟨u,hu,hv⟩:=(g5 q hq).2 j hj;exact ⟨u,hu,hV _ _ hv⟩
 ·intro i i' bU bt bw wD Ct oc h1 h2 h3 h4 he hlt;obtain ⟨n0,e1,e2,e3⟩:=aN _ _ _ _ h1;obtain ⟨n1,e4,e5,e6⟩:=aN _ _ _ _ h3;have b0:¬(n0= .nil/\bw=[]):=fun q=>h2 ⟨e2.1 q.1,q.2⟩
  have b1:¬(n1= .nil/\oc=[]):=fun q=>h4 ⟨e5.1 q.1,q.2⟩
  obtain ⟨k1,k2,k3,k4⟩:=h.hr.inj i i' _ _ _ _ _ _ e1 b0 e4 b1 he hlt;refine ⟨?_,?_,k3,k4⟩
  ·by_cases hi:i=id
   ·subst hi;have q1:some (Obj.live n0 bt bw)=some (.live nl sz es):=by rw [<-e1];exact hid
    injection q1 with q1;injection q1 with a1 a2 a3;subst a1;subst a2;subst a3
    have:=(hp i' n1 Ct oc (by omega) e4 b1 he.symm b0).1 hlt;have q2:some (Obj.live bU bt bw)=some (.live fl bt bw):=by rw [<-h1];simp [d,H',cu]
    injection q2 with q2;injection q2 with a1
    rw [a1];exact this
   ·rw [<-e3 hi];exact k1
  ·by_cases hi:i'=id
   ·subst hi;have q1:some (Obj.live n1 Ct oc)=some (.live nl sz es):=by rw [<-e4];exact hid
    injection q1 with q1;injection q1 with a1 a2 a3;subst a1;subst a2;subst a3
    have:=(hp i n0 bt bw (by omega) e1 b0 he b1).2 hlt;have q2:some (Obj.live wD Ct oc)=some (.live fl Ct oc):=by rw [<-h3];simp [d,H',cu]
    injection q2 with q2;injection q2 with a1
    rw [a1];exact this
   ·rw [<-e6 hi];exact k2
theorem SI (h:SR F c) {pl:Nat} (cZ:Room c.H pl) {t u ty e:TypeId} {sz bytes:Nat} {d:TypeDesc} (ht:P.underlying t=some (.slice e)) (hu:P.underlying u=some d) (hd:(∃ e',d= .slice e')\/d= .string)
 (hsz:cV P e=some sz) (hby:bytesOf P e=some bytes) {z:List AV} (hz:zeroOf P e=some z) (hzl:z.length=sz) {id ext len:Nat} {sv xv:Value} (hs:V c (.own id ext 0 len) sv) {nl fl:Fl} {es new:List (List AV)} {arr:Array Value}
 (hid:c.H[id]?=some (.live nl sz es)) (eG:ext=es.length) (hlen:len=es.length) (Ag:(es.length+new.length)*bytes<=2 ^ 40) (CD:es.length+new.length<=2 ^ 40) (hfl:nl.qX=some fl) (hlt:id < pl) (qI:es≠[]) (hne:new≠[])
 (l1:∀ w',(Builtin.lenOf xv).run P w'= .ok new.length w') (l2:∀ w':World,w'.heap=c.w.heap->(Builtin.firstCells sz new.length xv).run P w'= .ok arr w') (l3:arr.size=new.length*sz) (l4:Row c sz new arr) (l5:∀ u∈arr.toList,u.oneCell'=true):
 ∃ dd:Ctx,dd.H=putObj (c.H.set id (.live fl sz es)) pl (.live .ch sz (es++new))/\dD F c dd/\∃ v,(Builtin.append_ #[t,u] ty #[sv,xv]).run P c.w= .ok v dd.w/\V dd (.own pl (es.length+new.length) 0 (es.length+new.length)) v:=by
 have cu:=bJ hid;subst hlen
 cases hs with
 | own _ _ _ _ _ how=>
 obtain ⟨_,_,how⟩:=how;obtain ⟨hle,how⟩:=how _ _ _ hid;obtain ⟨S5,how⟩:=how eG;rcases how with ⟨_,iw,_⟩ | ⟨hbk,cap,rfl,hcap⟩
 ·exact (qI iw).elim
 have Pn:nl.old=false:=by cases nl<;>simp [Fl.qX] at hfl<;>rfl
 have SJ:fl.old=true:=by cases nl<;>simp [Fl.qX] at hfl<;>subst hfl<;>rfl
 have SK:nl.Ad=true->fl.Ad=true:=by cases nl<;>simp [Fl.qX] at hfl<;>subst hfl<;>simp [Fl.Ad]
 have Tc:nl= .nil↔fl= .nil:=by cases nl<;>simp [Fl.qX] at hfl<;>subst hfl<;>simp
 obtain ⟨d1,e1,e2,e3,e4,e5⟩:=vG h hid Tc (fun j bU bt bw hj hs jA he _=>by
  obtain ⟨k1,k2,k3,k4,k5⟩:=elder h hid hbk Pn hj hs jA he;exact ⟨fun q=>by omega,fun _=>SK k2⟩)
 have Po:d1.H[id]?=some (.live fl sz es):=by rw [e2];simp [cu]
 have GM:∀ j,j≠id->d1.H[j]?=c.H[j]?:=fun j hj=>by rw [e2,List.getElem?_set_ne (fun q=>hj q.symm)]
 have ae3:¬(fl= .nil/\es=[]):=fun q=>qI q.2
 have qR:Room d1.H pl:=by
  rcases cZ with q | q
  ·left;rw [GM pl (by omega)];exact q
  ·right;rw [e2];simpa using q
 have hno:∀ o:Obj,o≠ .gB->d1.H[pl]?≠some o:=by
  intro o ho e;rcases qR with q | q
  ·rw [q] at e;injection e with e;exact ho e.symm
  ·rw [q] at e;simp at e
 obtain ⟨cells,elem,b1,b2,b3,b4,b5⟩:=h.hr.back _ _ _ _ hid hbk;simp only [Nat.zero_mul] at hcap ⊢;have Ix:cap=c.K id:=by omega
 have hro:Row c sz es (cells.extract 0 (es.length*sz)):=by
  intro i hi;obtain ⟨g1,g2⟩:=b5 i hi;refine ⟨g1,fun j hj=>?_⟩;obtain ⟨q,hq,hv⟩:=g2 j hj;refine ⟨q,?_,hv⟩;have:=Nat.mul_le_mul_right sz (show i+1<=es.length by omega);rw [Nat.add_mul,Nat.one_mul] at this;have hmul:es.length*sz<=c.K id*sz:=Nat.mul_le_mul_right sz b3;rw [Array.getElem?_extract];rw [if_pos (by omega),Nat.zero_add];exact hq
 have hos:(cells.extract 0 (es.length*sz)).size=es.length*sz:=by
  have hmul:es.length*sz<=c.K id*sz:=Nat.mul_le_mul_right sz b3;simp;omega
 by_cases hroom:es.length+new.length<=cap
 ·have hmul:es.length*sz+new.length*sz<=c.K id*sz:=by
   rw [<-Nat.add_mul];exact Nat.mul_le_mul_right sz (by omega)
  have hal:arr.toList.length=new.length*sz:=by simpa using l3
  have hst:=run_storeCells_at P (c.ι id) (es.length*sz) elem arr.toList 0 cells c.w b1 (by rw [hal,b2];omega) l5;simp only [Nat.add_zero] at hst;generalize Iy:(cells.toList.take (es.length*sz)++arr.toList++cells.toList.drop (es.length*sz+arr.toList.length)).toArray=cells' at hst;have hsplit:cells'=(cells.extract 0 (es.length*sz))++arr++(cells.extract (es.length*sz+arr.size) cells.size):=by
   rw [<-Iy];apply Array.ext';simp [List.take_of_length_le]
  have hsize:cells'.size=cells.size:=by rw [hsplit];simp;omega
  have hpre:∀ q,q < es.length*sz->cells'[q]?=cells[q]?:=by
   intro q hq;rw [hsplit,Array.getElem?_append_left (by simp;omega),Array.getElem?_append_left (by simp;omega),Array.getElem?_extract,if_pos (by omega),Nat.zero_add]
  obtain ⟨dd,f1,f2,f3,f4,f5,f6,f7⟩:=sg e3.1 pl (c.ι id) (c.K id) .ch sz (es++new) cells' elem (c.w.setRow (c.ι id) cells') (putObj d1.H pl (.live .ch sz (es++new)))
   (uj _) (cA qR _) (fun j hj=> .inl (kB qR _ j hj)) (hno _ (by simp)) (Io hno) (fun bU bt bw hs=>(hno _ (by simp) hs).elim) (by simp)
   (by rw [e1];exact c7.setRow b1) (by rw [e1];simp) (fun b _ hne=>by rw [e1];exact setRow_other c.w _ b _ hne) (setRow_heap c.w _ cells cells' elem _ b1)
   (.inr ⟨id,fl,sz,es,Po,ae3,by rw [e4]⟩)
   (fun j bU bt bw hj hs jA he=>by
    rw [e4] at he;have iM:∀ cl el,d1.w.heap[c.ι id]?=some (.cells cl el (0,0))->bw.length<=es.length->bt=sz->cells'.size=cl.size/\∀ q,q < bw.length*bt->cells'[q]?=cl[q]?:=by
     intro cl el iM h1 h2;rw [e1,b1] at iM;injection iM with iM;injection iM with QY ae4
     subst QY;refine ⟨hsize,fun q hq=>hpre q ?_⟩;rw [h2] at hq;have:=Nat.mul_le_mul_right sz h1;omega
    by_cases hji:j=id
    ·subst hji;rw [Po] at hs;injection hs with hs;injection hs with a1 a2 a3;subst a1;subst a2;subst a3
     exact ⟨SJ,rfl,rfl,by simp,hlt,fun cl el q=>iM cl el q (Nat.le_refl _) rfl⟩
    ·rw [GM j hji] at hs;obtain ⟨k1,k2,k3,k4,k5⟩:=elder h hid hbk Pn hji hs jA he;exact ⟨k1,rfl,k3,by simp;omega,by omega,fun cl el q=>iM cl el q k4 k3⟩)
   (by rw [hsize,b2]) (by rw [List.length_append];omega) (by
    rw [hsplit];exact Row.gD (ez hro hos l4 l3) e3.2.1)
  refine ⟨dd,by rw [f2,e2],dD.trans e3 ⟨f3,f4,f5⟩,.slice (some ⟨c.ι id,0,none⟩) (es.length+new.length) cap,?_,.own _ _ _ _ _ ⟨by rw [Has,f2];exact ⟨ou qR _,by rw [cA qR];simp⟩,⟨_,_,rfl⟩,fun nl' yS Hu hs'=>?_⟩⟩
  ·rw [qD (P:=P) (ty:=ty) ht hu hd hsz c.w (l1 c.w) (l2 c.w rfl) hroom hst,f1]
  ·rw [f2,cA qR] at hs';simp at hs';obtain ⟨rfl,rfl,rfl⟩:=hs';exact ⟨by simp,fun _=>⟨by simp,.inr ⟨by simp,cap,by simp [f6],by simp [f7,Ix]⟩⟩⟩
 ·have hfo:∀ w':World,w'.heap=c.w.heap->(Builtin.firstCells sz es.length (.slice (some ⟨c.ι id,0,none⟩) es.length cap)).run P w'= .ok (cells.extract 0 (es.length*sz)) w':=by
   intro w' hw;simp only [Builtin.firstCells];have hmul:es.length*sz<=c.K id*sz:=Nat.mul_le_mul_right sz b3;rw [run_loadCells (P:=P) w' ⟨c.ι id,0,none⟩ (es.length*sz) (fun q=>(cells[q]?).getD undef) (fun q hq=>by
    rw [add_eq,Nat.zero_add];simp only [World.cell?,hw,b1];have:q < cells.size:=by rw [b2];omega
    simp [this])]
   congr 1;apply Array.ext
   ·simp;omega
   ·intro q h1 h2;simp at h1 h2;have:q < cells.size:=by omega
    simp [this]
  obtain ⟨cap',rest,k,aff,pC,hrun⟩:=lB (P:=P) (ty:=ty) ht hu hd hsz hby hz hzl c.w (l1 c.w) l2 hfo (by omega) Ag CD;obtain ⟨hS,GW,hF⟩:=e3.1.drawn k;have hrow:Row { d1 with w:={ d1.w with drawn:=k } } sz (es++new) (cells.extract 0 (es.length*sz)++arr++rest):=Row.gD (Row.gD (ez hro hos l4 l3) e3.2.1) GW;obtain ⟨dd,f1,f2,f3,f4,f5,f6,f7⟩:=sg hS pl d1.w.heap.size cap' .ch sz (es++new) (cells.extract 0 (es.length*sz)++arr++rest) e { d1.w with drawn:=k,heap:=d1.w.heap.push (.cells (cells.extract 0 (es.length*sz)++arr++rest) e) } (putObj d1.H pl (.live .ch sz (es++new)))
   (uj _) (cA qR _) (fun j hj=> .inl (kB qR _ j hj)) (hno _ (by simp)) (Io hno) (fun bU bt bw hs=>(hno _ (by simp) hs).elim) (by simp)
   (c7.push { d1.w with drawn:=k } (cells.extract 0 (es.length*sz)++arr++rest) e k) (by simp) (fun b hlt' _=>by simp only [Array.getElem?_push];rw [if_neg (by have:b < d1.w.heap.size:=hlt';omega)])
   (by simp) (.inl rfl) (fun j bU bt bw _ hs jA he=>(vr hS hs jA he).elim) (by
    simp only [Array.size_append,l3,hos,pC,<-Nat.add_mul];congr 1;omega) (by simp;omega) hrow
  refine ⟨dd,by rw [f2,e2],dD.trans e3 (dD.trans ⟨hS,GW,hF⟩ ⟨f3,f4,f5⟩),.slice (some ⟨c.w.heap.size,0,none⟩) (es.length+new.length) cap',by rw [hrun,f1,e1],.own _ _ _ _ _ ⟨by rw [Has,f2];exact ⟨ou qR _,by rw [cA qR];simp⟩,⟨_,_,rfl⟩,fun nl' yS Hu hs'=>?_⟩⟩;rw [f2,cA qR] at hs';simp at hs';obtain ⟨rfl,rfl,rfl⟩:=hs';exact ⟨by simp,fun _=>⟨by simp,.inr ⟨by simp,cap',by simp [f6,e1],by simp [f7]⟩⟩⟩
theorem z0 {t u ty e:TypeId} {sz bytes:Nat} {k:IntKind} (ht:P.underlying t=some (.slice e)) (hu:P.underlying u=some (.int k))
 (hsz:cV P e=some sz) (hby:bytesOf P e=some bytes) {i:TypeInfo} {zv:Value} (hi:P.info? e=some i) (z7:i.zero=some zv) (hzl:zv.cells.size=sz) {m:Nat} (w:World)
 (h0:0 < m) (Ag:m*bytes<=2 ^ 40) (CD:m<=2 ^ 40):
 ∃ cap rest q,m<=cap/\rest.size=(cap - m)*sz/\
  (Builtin.append_ #[t,u] ty #[.slice none 0 0,.int .i64 m]).run P w=
   .ok (.slice (some ⟨w.heap.size,0,none⟩) m cap) { w with drawn:=q,heap:=w.heap.push (.cells ((if m*sz=0 then #[] else Builtin.zeroCells zv.cells m)++rest) e) }:=by
 have Yt:i.bytes=bytes:=by
  unfold bytesOf at hby;rw [hi] at hby;injection hby
 let cap:=(Question.appendCap m 0 e).cut (w.tape w.drawn (.appendCap m 0 e));have hge:m<=cap:=by simp [cap,Question.cut]
 have TA:(2:Nat)^40=1099511627776:=by decide
 have hwrap:IntKind.i64.wrap (m:Int)=m:=by
  unfold IntKind.wrap;have e1:(2:Int) ^ IntKind.i64.bits=18446744073709551616:=by decide
  have e2:(2:Int) ^ (IntKind.i64.bits - 1)=9223372036854775808:=by decide
  simp only [e1,e2,IntKind.signed];have e3:(m:Int) % 18446744073709551616=m:=Int.emod_eq_of_lt (by omega) (by omega);rw [e3,if_neg];simp only [Bool.true_and,decide_eq_true_eq];omega
 refine ⟨cap,Builtin.zeroCells zv.cells (cap - m),w.drawn+1,hge,?_,?_⟩
 ·rw [size_zeroCells,hzl]
 ·have h63:¬ (((0+m:Nat):Int) > IntKind.i64.max/\(True\/bytes=0)):=by
   have h2:IntKind.i64.max=9223372036854775807:=by decide
   rw [h2];omega
  have h48:=fits (bytes:=bytes) (need:=0+m) (old:=0) (by omega) (by simpa using Ag);have hneg:¬ ((m:Int) < 0):=by omega
  have hmul:¬ ((m:Int)*(bytes:Int) > 2 ^ 48):=by
   have afq:(2:Int)^48=281474976710656:=by decide
   have:((m*bytes:Nat):Int)=(m:Int)*bytes:=by simp
   omega
  have CA:∀ w,(typeInfo e).run P w= .ok i w:=fun w=>by simp [typeInfo,hi]
  have QX:(Question.appendCap (0+m) 0 e).forced=false:=rfl;have hfo:∀ w':World,(Builtin.firstCells sz 0 (.slice none 0 0)).run P w'= .ok #[] w':=fun w'=>by simp [Builtin.firstCells]
  have hroom:¬ (0+m<=0):=by omega
  unfold Builtin.append_;simp only [List.getElem?_toArray,List.getElem?_cons_zero,List.getElem?_cons_succ,Sem.run_bind,aC ht,aC hu,Result.andThen_ok,b8 hsz,Sem.run_pure,
   if_true,asInt,asIntOf,hwrap,Sem.run_ite,hneg,if_false,CA,Yt,hmul,Int.toNat_natCast,hroom]
  rw [if_neg h63];simp only [h48,if_false,run_choose,QX,run_askRoom,Result.andThen_ok,hfo,Bool.not_true,Bool.false_eq_true];by_cases TJ:m*sz=0
  ·simp only [TJ,if_true,Sem.run_pure,Result.andThen_ok,eO hi z7,dg,Nat.zero_add,Array.empty_append];rfl
  ·simp only [TJ,if_false,Sem.run_pure,Result.andThen_ok,eO hi z7,dg,Nat.zero_add,Array.empty_append];rfl
theorem KL (h:SR F c) {pl:Nat} (cZ:Room c.H pl) {t u ty e:TypeId} {sz bytes:Nat} {d:TypeDesc} (ht:P.underlying t=some (.slice e)) (hu:P.underlying u=some d) (hd:(∃ e',d= .slice e')\/d= .string)
 (hsz:cV P e=some sz) (hby:bytesOf P e=some bytes) {z:List AV} (hz:zeroOf P e=some z) (hzl:z.length=sz) {s x r:AV} {sv xv:Value} (hs:V c s sv) (hx:V c x xv) {H':List Obj}
 (ha:append c.H pl sz bytes s x=some (r,H')):∃ dd:Ctx,dd.H=H'/\dD F c dd/\∃ v,(Builtin.append_ #[t,u] ty #[sv,xv]).run P c.w= .ok v dd.w/\V dd r v:=by
 unfold append at ha;split at ha
 case h_1=>simp at ha
 rename_i new hnew;split at ha
 case isFalse=>simp at ha
 rename_i hall;obtain ⟨arr,l1,l2,l3,l4,l5⟩:=OK (P:=P) h.hr hx hnew hall;split at ha
 ·cases hs;split at ha
  ·rename_i hne;subst hne;simp only [Option.some.injEq,Prod.mk.injEq] at ha;obtain ⟨rfl,rfl⟩:=ha;refine ⟨c,rfl,dD.refl h,.slice none 0 0,?_,.bx⟩;have lP:arr=#[]:=by simpa using l3
   have q1:=l1 c.w;have q2:=l2 c.w rfl;simp only [List.length_nil] at q1 q2;unfold Builtin.append_;rcases hd with ⟨e',rfl⟩ | rfl
   all_goals simp [aC ht,aC hu,b8 hsz,q1,q2]
  ·rename_i hne;split at ha
   case isFalse=>simp at ha
   rename_i hb;simp only [Option.some.injEq,Prod.mk.injEq] at ha;obtain ⟨rfl,rfl⟩:=ha;have h0:0 < new.length:=List.length_pos_iff.2 hne;obtain ⟨cap,rest,k,hcap,pC,hrun⟩:=lB (P:=P) (ty:=ty) ht hu hd hsz hby hz hzl c.w (l1 c.w) l2 (base:=none) (sLen:=0) (sCap:=0) (old:=#[])
    (fun w' _=>by simp [Builtin.firstCells]) (by omega) (by simpa using hb.1) (by simpa using hb.2)
   obtain ⟨hS,GW,hF⟩:=h.drawn k;have hrow:Row c sz ([]++new) (#[]++arr++rest):=ez (fun i hi=>by simp at hi) (by simp) l4 l3;simp only [List.nil_append] at hrow;obtain ⟨dd,d1,d2,d3,d4⟩:=lg hS cZ cap sz new (#[]++arr++rest) e (by
    simp only [Array.empty_append,Array.size_append,l3,pC,<-Nat.add_mul];congr 1;omega) (by omega) (Row.gD hrow GW)
   refine ⟨dd,d2,dD.trans ⟨hS,GW,hF⟩ d3,_,?_,d4⟩;rw [hrun,d1];simp
 ·rename_i id ext off len;split at ha
  case h_2=>simp at ha
  rename_i sz' es hl;obtain ⟨nl,hid⟩:=bu hl;split at ha
  case isFalse=>simp at ha
  rename_i hc;obtain ⟨eG,rfl,hlen,rfl,Ag,CD⟩:=hc;have o4:cw c.H id=nl:=by simp [cw,hid]
  rw [o4] at ha;have cu:=bJ hid;split at ha
  case isFalse hg=>
   split at ha
   case h_2=>simp at ha
   rename_i fl hfl;split at ha
   case isFalse=>simp at ha
   rename_i hq;obtain ⟨qR,qI,hne⟩:=hq;simp only [Option.some.injEq,Prod.mk.injEq] at ha;obtain ⟨rfl,rfl⟩:=ha;exact SI h cZ ht hu hd hsz hby hz hzl hs hid eG hlen Ag CD hfl qR qI hne l1 l2 l3 l4 l5
  rename_i hg;simp only [Option.some.injEq,Prod.mk.injEq] at ha;obtain ⟨rfl,rfl⟩:=ha;have hold:nl.old=false:=by cases nl<;>simp [Fl.sj] at hg<;>rfl
  cases hs with
  | own _ _ _ _ _ how=>
  obtain ⟨_,_,how⟩:=how;obtain ⟨hle,how⟩:=how _ _ _ hid;obtain ⟨S5,how⟩:=how eG;have grow:∀ (base:Option Addr) (sCap:Nat) (old:Array Value),(∀ w':World,w'.heap=c.w.heap->(Builtin.firstCells sz' es.length (.slice base es.length sCap)).run P w'= .ok old w')->
   Row c sz' es old->old.size=es.length*sz'->sCap < es.length+new.length->new≠[]->
   ∃ dd:Ctx,dd.H=c.H.set id (.live nl sz' (es++new))/\dD F c dd/\∃ v,(Builtin.append_ #[t,u] ty #[.slice base es.length sCap,xv]).run P c.w= .ok v dd.w/\
    V dd (.own id (es.length+new.length) 0 (es.length+new.length)) v:=by
   intro base sCap old hfo hro hos hroom hne;obtain ⟨cap,rest,k,hcap,pC,hrun⟩:=lB (P:=P) (ty:=ty) ht hu hd hsz hby hz hzl c.w (l1 c.w) l2 hfo hroom Ag CD;obtain ⟨hS,GW,hF⟩:=h.drawn k;have hrow:Row { c with w:={ c.w with drawn:=k } } sz' (es++new) (old++arr++rest):=Row.gD (ez hro hos l4 l3) GW;obtain ⟨dd,d1,d2,d3,d4,d5,d6,d7⟩:=sg hS id c.w.heap.size cap nl sz' (es++new) (old++arr++rest) e { c.w with drawn:=k,heap:=c.w.heap.push (.cells (old++arr++rest) e) } (c.H.set id (.live nl sz' (es++new)))
    (by simp) (by simp [cu]) (fun j hj=>by left;rw [List.getElem?_set_ne (fun q=>hj q.symm)]) (by rw [hid];simp) (Az hid)
    (fun bU bt bw h0=>by
     have h0':c.H[id]?=some (.live bU bt bw):=h0;rw [hid] at h0';injection h0' with h0';injection h0' with q1 q2 q3
     subst q1;subst q2;subst q3;refine ⟨rfl,rfl,by simp,fun hh=>?_⟩;exfalso;simp at hh;exact hne hh)
    (by rintro ⟨_,q⟩;simp at q;exact hne q.2) (c7.push { c.w with drawn:=k } (old++arr++rest) e k) (by simp) (fun b hlt _=>by simp only [Array.getElem?_push];rw [if_neg (by have:b < c.w.heap.size:=hlt;omega)])
    (by simp) (.inl rfl) (fun j bU bt bw _ hs hbk he=>(vr hS hs hbk he).elim) (by
     simp only [Array.size_append,l3,hos,pC,<-Nat.add_mul];congr 1;omega) (by simp;omega) hrow
   refine ⟨dd,d2,dD.trans ⟨hS,GW,hF⟩ ⟨d3,d4,d5⟩,_,by rw [hrun,d1],.own _ _ _ _ _ ⟨by rw [Has,d2];simp [cu],⟨_,_,rfl⟩,fun nl' yS Hu hs'=>?_⟩⟩;rw [d2] at hs';simp [cu] at hs';obtain ⟨rfl,rfl,rfl⟩:=hs';refine ⟨by simp,fun _=>⟨by simp,.inr ⟨by rintro ⟨_,q⟩;simp at q;exact hne q.2,cap,by simp [d6],by simp [d7]⟩⟩⟩
  rcases how with ⟨ae5,qI,rfl⟩ | ⟨hbk,cap,rfl,hcap⟩
  ·subst qI;have O8:len=0:=by simpa using hlen
   by_cases hne:new=[]
   ·subst hne;have hH:c.H.set id (.live nl sz' ([]++[]))=c.H:=by
     apply List.ext_getElem?
     intro j;by_cases hj:j=id
     ·subst hj;simp [cu];exact (List.getElem?_eq_some_iff.1 hid).2.symm
     ·rw [List.getElem?_set_ne (fun q=>hj q.symm)]
    refine ⟨c,hH.symm,dD.refl h,.slice none 0 0,?_,.own _ _ _ _ _ ⟨⟨cu,by rw [hid];simp⟩,⟨_,_,rfl⟩,fun nl' yS Hu hs'=>?_⟩⟩
    ·have q1:=l1 c.w;have q2:=l2 c.w rfl;simp only [List.length_nil] at q1 q2;unfold Builtin.append_;rcases hd with ⟨e',rfl⟩ | rfl
     all_goals simp [aC ht,aC hu,b8 hsz,q1,q2]
    ·rw [hid] at hs';injection hs' with hs';injection hs' with q1 q2 q3
     subst q1;subst q2;subst q3;exact ⟨by simp,fun _=>⟨by simp,.inl ⟨ae5,rfl,rfl⟩⟩⟩
   ·have h0:0 < new.length:=List.length_pos_iff.2 hne;exact grow none 0 #[] (fun w' _=>by simp [Builtin.firstCells]) (fun i hi=>by simp at hi) (by simp) (by simp;omega) hne
  ·obtain ⟨cells,elem,b1,b2,b3,b4,b5⟩:=h.hr.back _ _ _ _ hid hbk;simp only [Nat.zero_mul] at hcap ⊢;have Ix:cap=c.K id:=by omega
   subst hlen;by_cases hroom:es.length+new.length<=cap
   ·have hmul:es.length*sz'+new.length*sz'<=c.K id*sz':=by
     rw [<-Nat.add_mul];exact Nat.mul_le_mul_right sz' (by omega)
    have hal:arr.toList.length=new.length*sz':=by simpa using l3
    have hst:=run_storeCells_at P (c.ι id) (es.length*sz') elem arr.toList 0 cells c.w b1 (by rw [hal,b2];omega) l5;simp only [Nat.add_zero] at hst;generalize Iy:(cells.toList.take (es.length*sz')++arr.toList++cells.toList.drop (es.length*sz'+arr.toList.length)).toArray=cells' at hst;have hsplit:cells'=(cells.extract 0 (es.length*sz'))++arr++(cells.extract (es.length*sz'+arr.size) cells.size):=by
     rw [<-Iy];apply Array.ext';simp [List.take_of_length_le]
    have hos:(cells.extract 0 (es.length*sz')).size=es.length*sz':=by simp;omega
    have hro:Row c sz' es (cells.extract 0 (es.length*sz')):=by
     intro i hi;obtain ⟨g1,g2⟩:=b5 i hi;refine ⟨g1,fun j hj=>?_⟩;obtain ⟨q,hq,hv⟩:=g2 j hj;refine ⟨q,?_,hv⟩;have:=Nat.mul_le_mul_right sz' (show i+1<=es.length by omega);rw [Nat.add_mul,Nat.one_mul] at this;rw [Array.getElem?_extract];rw [if_pos (by omega),Nat.zero_add];exact hq
    have hsize:cells'.size=cells.size:=by rw [hsplit];simp;omega
    obtain ⟨dd,d1,d2,d3,d4,d5,d6,d7⟩:=sg h id (c.ι id) (c.K id) nl sz' (es++new) cells' elem (c.w.setRow (c.ι id) cells') (c.H.set id (.live nl sz' (es++new)))
     (by simp) (by simp [cu]) (fun j hj=>by left;rw [List.getElem?_set_ne (fun q=>hj q.symm)]) (by rw [hid];simp) (Az hid)
     (fun bU bt bw h0=>by
      rw [hid] at h0;injection h0 with h0;injection h0 with q1 q2 q3
      subst q1;subst q2;subst q3;exact ⟨rfl,rfl,by simp,fun _=>⟨hbk,rfl,rfl⟩⟩)
     (by rintro ⟨q1,q⟩;simp at q;exact hbk ⟨q1,q.1⟩) (c7.setRow b1) (by simp) (fun b _ hne=>setRow_other c.w _ b _ hne)
     (setRow_heap c.w _ cells cells' elem _ b1) (.inr ⟨id,nl,sz',es,hid,hbk,rfl⟩)
     (fun j bU bt bw hj hs jA he=>by
      obtain ⟨k1,k2,k3,k4,k5⟩:=elder h hid hbk hold hj hs jA he;refine ⟨k1,k2,k3,by simp;omega,k5,fun cl el iM=>?_⟩;rw [b1] at iM;injection iM with iM;injection iM with QY ae4
      subst QY;refine ⟨hsize,fun q hq=>?_⟩;have hm:=Nat.mul_le_mul_right sz' k4;rw [k3] at hq;rw [hsplit,Array.getElem?_append_left (by simp;omega),Array.getElem?_append_left (by simp;omega),Array.getElem?_extract,if_pos (by omega),Nat.zero_add])
     (by rw [hsize,b2]) (by rw [List.length_append];omega) (by rw [hsplit];exact ez hro hos l4 l3)
    refine ⟨dd,d2,⟨d3,d4,d5⟩,.slice (some ⟨c.ι id,0,none⟩) (es.length+new.length) cap,?_,.own _ _ _ _ _ ⟨by rw [Has,d2];simp [cu],⟨_,_,rfl⟩,fun nl' yS Hu hs'=>?_⟩⟩
    ·rw [qD (P:=P) (ty:=ty) ht hu hd hsz c.w (l1 c.w) (l2 c.w rfl) hroom hst,d1]
    ·rw [d2] at hs';simp [cu] at hs';obtain ⟨rfl,rfl,rfl⟩:=hs';refine ⟨by simp,fun _=>⟨by simp,.inr ⟨by rintro ⟨q1,q⟩;simp at q;exact hbk ⟨q1,q.1⟩,cap,by simp [d6],by simp [d7,Ix]⟩⟩⟩
   ·by_cases hne:new=[]
    ·subst hne;simp at hroom;omega
    ·have hfo:∀ w':World,w'.heap=c.w.heap->(Builtin.firstCells sz' es.length (.slice (some ⟨c.ι id,0,none⟩) es.length cap)).run P w'= .ok (cells.extract 0 (es.length*sz')) w':=by
      intro w' hw;simp only [Builtin.firstCells];have hmul:es.length*sz'<=c.K id*sz':=Nat.mul_le_mul_right sz' b3;rw [run_loadCells (P:=P) w' ⟨c.ι id,0,none⟩ (es.length*sz') (fun q=>(cells[q]?).getD undef) (fun q hq=>by
       rw [add_eq,Nat.zero_add];simp only [World.cell?,hw,b1];have:q < cells.size:=by rw [b2];omega
       simp [this])]
      congr 1;apply Array.ext
      ·simp;omega
      ·intro q h1 h2;simp at h1 h2;have:q < cells.size:=by omega
       simp [this]
     have hro:Row c sz' es (cells.extract 0 (es.length*sz')):=by
      intro i hi;obtain ⟨g1,g2⟩:=b5 i hi;refine ⟨g1,fun j hj=>?_⟩;obtain ⟨q,hq,hv⟩:=g2 j hj;refine ⟨q,?_,hv⟩;have:=Nat.mul_le_mul_right sz' (show i+1<=es.length by omega);rw [Nat.add_mul,Nat.one_mul] at this;have hmul:es.length*sz'<=c.K id*sz':=Nat.mul_le_mul_right sz' b3;rw [Array.getElem?_extract];rw [if_pos (by omega),Nat.zero_add];exact hq
     exact grow _ cap _ hfo hro (by
      have hmul:es.length*sz'<=c.K id*sz':=Nat.mul_le_mul_right sz' b3;simp;omega) (by omega) hne
 ·simp at ha
end
end Go.Am
