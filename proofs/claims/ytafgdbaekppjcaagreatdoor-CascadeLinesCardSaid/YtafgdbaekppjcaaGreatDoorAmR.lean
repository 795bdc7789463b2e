/- Appends, and all operations that make or change memory, joined. Condition: the state's relation. -/
import Derived.Test.YtafgdbaekppjcaaGreatDoorAmQ
set_option linter.unusedSectionVars false
set_option linter.unusedVariables false
set_option linter.unusedSimpArgs false
namespace Go.Am
section
variable {P:Program} {F:Fo} {c:Ctx}
theorem fits {need old bytes:Nat} (h:old < need) (hb:need*bytes≤2 ^ 40):¬ (Builtin.nextslicecap need old*bytes > 2 ^ 48):=by
 have h1:(2:Nat)^40=1099511627776:=by decide
 have:=growslice_fits (bytes:=bytes) h (by rw [h1] at hb;omega)
 have h2:(2:Nat)^48=281474976710656:=by decide
 omega
theorem run_app_room {t u ty e:TypeId} {sz:Nat} {d:TypeDesc} (ht:P.underlying t=some (.slice e)) (hu:P.underlying u=some d) (hd:(∃ e',d= .slice e')∨d= .string)
 (hsz:szOf P e=some sz) {xv:Value} {m:Nat} {arr:Array Value} (w:World) (hl:(Builtin.lenOf xv).run P w= .ok m w) (hf:(Builtin.firstCells sz m xv).run P w= .ok arr w)
 {b sLen sCap:Nat} (hroom:sLen+m≤sCap) {w':World} (hst:(storeCells ⟨b,sLen*sz,none⟩ arr.toList).run P w= .ok () w'):
 (Builtin.append_ #[t,u] ty #[.slice (some ⟨b,0,none⟩) sLen sCap,xv]).run P w= .ok (.slice (some ⟨b,0,none⟩) (sLen+m) sCap) w':=by
 unfold Builtin.append_
 rcases hd with ⟨e',rfl⟩ | rfl
 all_goals
  simp only [List.getElem?_toArray,List.getElem?_cons_zero,List.getElem?_cons_succ,Sem.run_bind,run_under ht,run_under hu,Result.andThen_ok,run_szOf hsz,Sem.run_pure,
   Bool.false_eq_true,if_false,hl,hroom,if_true,Bool.not_false,hf,add_eq,Nat.zero_add,hst]
theorem run_app_grow {t u ty e:TypeId} {sz bytes:Nat} {d:TypeDesc} (ht:P.underlying t=some (.slice e)) (hu:P.underlying u=some d) (hd:(∃ e',d= .slice e')∨d= .string)
 (hsz:szOf P e=some sz) (hby:bytesOf P e=some bytes) {z:List AV} (hz:zeroOf P e=some z) (hzl:z.length=sz) {xv:Value} {m:Nat} {arr old:Array Value} (w:World)
 (hl:(Builtin.lenOf xv).run P w= .ok m w) (hf:∀ w':World,w'.heap=w.heap→(Builtin.firstCells sz m xv).run P w'= .ok arr w')
 {base:Option Addr} {sLen sCap:Nat} (hfo:∀ w':World,w'.heap=w.heap→(Builtin.firstCells sz sLen (.slice base sLen sCap)).run P w'= .ok old w')
 (hroom:sCap < sLen+m) (hb1:(sLen+m)*bytes≤2 ^ 40) (hb2:sLen+m≤2 ^ 40):
 ∃ cap rest k,sLen+m≤cap∧rest.size=(cap - (sLen+m))*sz∧
  (Builtin.append_ #[t,u] ty #[.slice base sLen sCap,xv]).run P w=
   .ok (.slice (some ⟨w.heap.size,0,none⟩) (sLen+m) cap) { w with drawn:=k,heap:=w.heap.push (.cells (old++arr++rest) e) }:=by
 obtain ⟨i,zv,hi,hzv,rfl⟩:=zeroOf_some hz
 have hib:i.bytes=bytes:=by
  unfold bytesOf at hby;rw [hi] at hby;injection hby
 let cap:=(Question.appendCap (sLen+m) sCap e).cut (w.tape w.drawn (.appendCap (sLen+m) sCap e))
 have hge:sLen+m≤cap:=by simp [cap,Question.cut]
 refine ⟨cap,Builtin.zeroCells zv.cells (cap - (sLen+m)),w.drawn+1,hge,?_,?_⟩
 ·rw [size_zeroCells];congr 1;simpa using hzl
 ·have h63:¬ (((sLen+m:Nat):Int) > IntKind.i64.max∧(False∨bytes=0)):=by
   have h2:IntKind.i64.max=9223372036854775807:=by decide
   have h3:(2:Nat)^40=1099511627776:=by decide
   rw [h2];omega
  have h48:=fits (bytes:=bytes) hroom hb1
  have hti:∀ w,(typeInfo e).run P w= .ok i w:=fun w=>by simp [typeInfo,hi]
  have hfor:(Question.appendCap (sLen+m) sCap e).forced=false:=rfl
  have hff:=hfo { w with drawn:=w.drawn+1 } rfl
  have hfn:=hf { w with drawn:=w.drawn+1 } rfl
  unfold Builtin.append_
  rcases hd with ⟨e',rfl⟩ | rfl
  all_goals
   simp only [List.getElem?_toArray,List.getElem?_cons_zero,List.getElem?_cons_succ,Sem.run_bind,run_under ht,run_under hu,Result.andThen_ok,run_szOf hsz,Sem.run_pure,
    Bool.false_eq_true,if_false,hl,Nat.not_le.2 hroom,hti,hib,h48,Sem.run_ite,run_choose,hfor,run_askRoom,run_zero hi hzv]
   rw [if_neg h63]
   simp only [Result.andThen_ok,hff,Bool.not_false,if_true,hfn,run_newRow]
   rfl
theorem extract_elems {es new:List (List AV)} {sz:Nat} {old arr rest:Array Value} (hold:Row c sz es old) (hos:old.size=es.length*sz) (hnew:Row c sz new arr) (has:arr.size=new.length*sz):
 Row c sz (es++new) (old++arr++rest):=by
 intro i hi
 simp at hi
 by_cases h:i < es.length
 ·simp only [List.getElem_append_left h]
  obtain ⟨g1,g2⟩:=hold i h
  refine ⟨g1,fun j hj=>?_⟩
  obtain ⟨u,hu,hv⟩:=g2 j hj
  refine ⟨u,?_,hv⟩
  have hlt:i*sz+j < old.size:=by
   rcases Nat.lt_or_ge (i*sz+j) old.size with e | e
   ·exact e
   ·rw [Array.getElem?_eq_none e] at hu;simp at hu
  rw [Array.append_assoc,Array.getElem?_append_left hlt];exact hu
 ·have h2:es.length≤i:=by omega
  simp only [List.getElem_append_right h2]
  obtain ⟨g1,g2⟩:=hnew (i - es.length) (by omega)
  refine ⟨g1,fun j hj=>?_⟩
  obtain ⟨u,hu,hv⟩:=g2 j hj
  refine ⟨u,?_,hv⟩
  have hm:i*sz=es.length*sz+(i - es.length)*sz:=by rw [←Nat.add_mul];congr 1;omega
  have hlt:(i - es.length)*sz+j < arr.size:=by
   rcases Nat.lt_or_ge ((i - es.length)*sz+j) arr.size with e | e
   ·exact e
   ·rw [Array.getElem?_eq_none e] at hu;simp at hu
  rw [Array.append_assoc,Array.getElem?_append_right (by omega),Array.getElem?_append_left (by omega)]
  rw [←hu];congr 1;omega
theorem V.drawn {d:Ctx} {x:AV} {v:Value} (h:V d x v) (w':World) (hw:w'.heap=d.w.heap):V { d with w:=w' } x v:=
 V.mono (c:=d) (d:={ d with w:=w' }) (fun b hb _=>⟨by simp only [hw],hb⟩) (fun _ _ _ _ _ h=>h) (fun _ _ _ _ _ h=>h) (fun _ _ _ _ _ _ h=>h) (fun _ _ h=>h) h
theorem SR.drawn (h:SR F c) (k:Nat):Went F c { c with w:={ c.w with drawn:=k } }:=by
 have hw:({ c.w with drawn:=k }:World).heap=c.w.heap:=rfl
 generalize hw':({ c.w with drawn:=k }:World)=w' at hw
 have hsm:Same c.w w':=by subst hw';exact ⟨rfl,rfl,rfl,fun _=>rfl⟩
 refine ⟨⟨⟨?_,h.hr.inj⟩,h.hO,fun b hf=>by simp only [hw];exact h.hF b hf,h.disj,h.x.keep (fun id o h1 h2=>⟨h1,rfl,by simp only [hw]⟩) fun x v hx=>hx.drawn w' hw⟩,fun x v hx=>hx.drawn w' hw,fun n=>⟨by simp [hw],fun b _ _ _=>by simp [hw],fun x v _ hx=>hx.drawn w' hw,fun b ho=> .inl ho,fun h=>h,hsm,fun b hb=> .inl hb⟩⟩
 intro id nl sz es h1 h2
 obtain ⟨cells,elem,g1,g2,g3,g4,g5⟩:=h.hr.back id nl sz es h1 h2
 refine ⟨cells,elem,by simp only [hw];exact g1,g2,g3,g4,fun i hi=>⟨(g5 i hi).1,fun j hj=>?_⟩⟩
 obtain ⟨u,hu,hv⟩:=(g5 i hi).2 j hj
 exact ⟨u,hu,hv.drawn w' hw⟩
theorem Row.went {d:Ctx} {sz:Nat} {es:List (List AV)} {cells:Array Value} (h:Row c sz es cells) (hv:∀ x v,V c x v→V d x v):Row d sz es cells:=by
 intro i hi
 obtain ⟨g1,g2⟩:=h i hi
 refine ⟨g1,fun j hj=>?_⟩
 obtain ⟨u,hu,hV⟩:=g2 j hj
 exact ⟨u,hu,hv _ _ hV⟩
theorem flag_sound (h:SR F c) {id:Nat} {nl fl:Fl} {sz:Nat} {es:List (List AV)} (hid:c.H[id]?=some (.live nl sz es)) (hn:nl= .nil↔fl= .nil)
 (hp:∀ j nl0 sz0 es0,j≠id→c.H[j]?=some (.live nl0 sz0 es0)→¬(nl0= .nil∧es0=[])→c.ι j=c.ι id→¬(nl= .nil∧es=[])→(id < j→fl.old=true)∧(j < id→fl.kid=true)):
 ∃ d:Ctx,d.w=c.w∧d.H=c.H.set id (.live fl sz es)∧Went F c d∧d.ι=c.ι∧d.K=c.K:=by
 have hidlt:=lt_of_some hid
 let H':=c.H.set id (.live fl sz es)
 have hget:∀ (i:Nat) nl0 sz0 es0,H'[i]?=some (.live nl0 sz0 es0)→∃ nl1,c.H[i]?=some (.live nl1 sz0 es0)∧(nl1= .nil↔nl0= .nil)∧(i≠id→nl1=nl0):=by
  intro i nl0 sz0 es0 hs
  by_cases hi:i=id
  ·subst hi
   simp only [H',List.getElem?_set_self hidlt,Option.some.injEq,Obj.live.injEq] at hs
   obtain ⟨rfl,rfl,rfl⟩:=hs
   exact ⟨nl,hid,hn,fun q=>(q rfl).elim⟩
  ·refine ⟨nl0,?_,Iff.rfl,fun _=>rfl⟩
   rw [←hs];simp only [H'];rw [List.getElem?_set_ne (fun q=>hi q.symm)]
 have hown:∀ b,Owned H' c.ι b→Owned c.H c.ι b:=by
  rintro b ⟨i,nl0,sz0,es0,h1,h2,h3⟩
  obtain ⟨nl1,e1,e2,_⟩:=hget _ _ _ _ h1
  exact ⟨i,nl1,sz0,es0,e1,fun q=>h2 ⟨e2.1 q.1,q.2⟩,h3⟩
 let d:Ctx:=⟨c.w,fun b=>F b∨Owned H' c.ι b,c.ι,c.K,H'⟩
 have hHas:∀ i,Has c i→Has d i:=by
  rintro i ⟨h1,h2⟩
  refine ⟨by simpa [d,H'] using h1,fun e=>?_⟩
  by_cases hi:i=id
  ·subst hi;simp [d,H',hidlt] at e
  ·refine h2 ?_
   rw [←e];simp only [d,H'];rw [List.getElem?_set_ne (fun q=>hi q.symm)]
 have hsp:∀ j o,d.H[j]?=some o→o.sp=true→c.H[j]?=some o∧d.ι j=c.ι j∧d.w.heap[c.ι j]?=c.w.heap[c.ι j]?:=by
  intro j o h1 h2
  refine ⟨?_,rfl,rfl⟩
  by_cases hj:j=id
  ·subst hj;simp [d,H',hidlt] at h1;subst h1;simp [Obj.sp] at h2
  ·rw [←h1];simp only [d,H'];rw [List.getElem?_set_ne (fun q=>hj q.symm)]
 have hV:∀ x v,V c x v→V d x v:=by
  intro x v hv
  refine V.mono ?_ ?_ ?_ ?_ (fun i b hs=>hs.keep hHas hsp) hv
  ·intro b hnb _
   refine ⟨rfl,?_⟩
   rintro (hf | ho)
   ·exact hnb ((h.hO b).2 (.inl hf))
   ·exact hnb ((h.hO b).2 (.inr (hown b ho)))
  ·rintro i e o l v ⟨g1,g2,g3⟩
   refine ⟨hHas i g1,g2,fun nl0 sz0 es0 hs=>?_⟩
   obtain ⟨nl1,e1,e2,_⟩:=hget _ _ _ _ hs
   obtain ⟨k1,k2⟩:=g3 nl1 sz0 es0 e1
   refine ⟨k1,fun he=>?_⟩
   obtain ⟨k3,k4⟩:=k2 he
   refine ⟨k3,?_⟩
   rcases k4 with ⟨q1,q2,q3⟩ | ⟨q1,q2⟩
   ·exact .inl ⟨e2.1 q1,q2,q3⟩
   ·exact .inr ⟨fun q=>q1 ⟨e2.2 q.1,q.2⟩,q2⟩
  ·rintro i ext e o v ⟨g1,q,g2,g3,g4⟩
   refine ⟨hHas i g1,q,g2,g3,fun nl0 sz0 es0 hs=>?_⟩
   obtain ⟨nl1,e1,_⟩:=hget _ _ _ _ hs
   exact g4 nl1 sz0 es0 e1
  ·rintro i ext e o l v ⟨g1,q,g2,g3,g4⟩
   refine ⟨hHas i g1,q,g2,g3,fun nl0 sz0 es0 hs=>?_⟩
   obtain ⟨nl1,e1,_⟩:=hget _ _ _ _ hs
   exact g4 nl1 sz0 es0 e1
 refine ⟨d,rfl,rfl,⟨⟨⟨?_,?_⟩,fun b=>Iff.rfl,h.hF,fun b ho=>h.disj b (hown b ho),h.x.keep hsp hV⟩,hV,fun n=>⟨Nat.le_refl _,fun _ _ _ _=>rfl,fun x v _ hv=>hV x v hv,fun b ho=> .inl (hown b ho),fun hn=>by simpa [d,H'] using hn,Same.refl _,fun b hb=> .inl (ownedS_keep hsp hb)⟩⟩,rfl,rfl⟩
 ·intro i nl0 sz0 es0 hs hbk
  obtain ⟨nl1,hs',e2,_⟩:=hget _ _ _ _ hs
  obtain ⟨cells,elem,g1,g2,g3,g4,g5⟩:=h.hr.back i nl1 sz0 es0 hs' (fun q=>hbk ⟨e2.1 q.1,q.2⟩)
  refine ⟨cells,elem,g1,g2,g3,.inr ⟨i,nl0,sz0,es0,hs,hbk,rfl⟩,fun q hq=>⟨(g5 q hq).1,fun j hj=>?_⟩⟩
  obtain ⟨u,hu,hv⟩:=(g5 q hq).2 j hj
  exact ⟨u,hu,hV _ _ hv⟩
 ·intro i i' nl0 sz0 es0 nl1 sz1 es1 h1 h2 h3 h4 he hlt
  obtain ⟨n0,e1,e2,e3⟩:=hget _ _ _ _ h1
  obtain ⟨n1,e4,e5,e6⟩:=hget _ _ _ _ h3
  have b0:¬(n0= .nil∧es0=[]):=fun q=>h2 ⟨e2.1 q.1,q.2⟩
  have b1:¬(n1= .nil∧es1=[]):=fun q=>h4 ⟨e5.1 q.1,q.2⟩
  obtain ⟨k1,k2,k3,k4⟩:=h.hr.inj i i' _ _ _ _ _ _ e1 b0 e4 b1 he hlt
  refine ⟨?_,?_,k3,k4⟩
  ·by_cases hi:i=id
   ·subst hi
    have q1:some (Obj.live n0 sz0 es0)=some (.live nl sz es):=by rw [←e1];exact hid
    injection q1 with q1;injection q1 with a1 a2 a3;subst a1;subst a2;subst a3
    have:=(hp i' n1 sz1 es1 (by omega) e4 b1 he.symm b0).1 hlt
    have q2:some (Obj.live nl0 sz0 es0)=some (.live fl sz0 es0):=by rw [←h1];simp [d,H',hidlt]
    injection q2 with q2;injection q2 with a1
    rw [a1];exact this
   ·rw [←e3 hi];exact k1
  ·by_cases hi:i'=id
   ·subst hi
    have q1:some (Obj.live n1 sz1 es1)=some (.live nl sz es):=by rw [←e4];exact hid
    injection q1 with q1;injection q1 with a1 a2 a3;subst a1;subst a2;subst a3
    have:=(hp i n0 sz0 es0 (by omega) e1 b0 he b1).2 hlt
    have q2:some (Obj.live nl1 sz1 es1)=some (.live fl sz1 es1):=by rw [←h3];simp [d,H',hidlt]
    injection q2 with q2;injection q2 with a1
    rw [a1];exact this
   ·rw [←e6 hi];exact k2
theorem fork_V (h:SR F c) {pl:Nat} (hpl:Room c.H pl) {t u ty e:TypeId} {sz bytes:Nat} {d:TypeDesc} (ht:P.underlying t=some (.slice e)) (hu:P.underlying u=some d) (hd:(∃ e',d= .slice e')∨d= .string)
 (hsz:szOf P e=some sz) (hby:bytesOf P e=some bytes) {z:List AV} (hz:zeroOf P e=some z) (hzl:z.length=sz) {id ext len:Nat} {sv xv:Value} (hs:V c (.own id ext 0 len) sv) {nl fl:Fl} {es new:List (List AV)} {arr:Array Value}
 (hid:c.H[id]?=some (.live nl sz es)) (hext:ext=es.length) (hlen:len=es.length) (hb1:(es.length+new.length)*bytes≤2 ^ 40) (hb2:es.length+new.length≤2 ^ 40) (hfl:nl.forked=some fl) (hlt:id < pl) (hes:es≠[]) (hne:new≠[])
 (l1:∀ w',(Builtin.lenOf xv).run P w'= .ok new.length w') (l2:∀ w':World,w'.heap=c.w.heap→(Builtin.firstCells sz new.length xv).run P w'= .ok arr w') (l3:arr.size=new.length*sz) (l4:Row c sz new arr) (l5:∀ u∈arr.toList,u.oneCell'=true):
 ∃ dd:Ctx,dd.H=putObj (c.H.set id (.live fl sz es)) pl (.live .ch sz (es++new))∧Went F c dd∧∃ v,(Builtin.append_ #[t,u] ty #[sv,xv]).run P c.w= .ok v dd.w∧V dd (.own pl (es.length+new.length) 0 (es.length+new.length)) v:=by
 have hidlt:=lt_of_some hid
 subst hlen
 cases hs with
 | own _ _ _ _ _ how=>
 obtain ⟨_,_,how⟩:=how
 obtain ⟨hle,how⟩:=how _ _ _ hid
 obtain ⟨hol,how⟩:=how hext
 rcases how with ⟨_,hnil,_⟩ | ⟨hbk,cap,rfl,hcap⟩
 ·exact (hes hnil).elim
 have hnew0:nl.old=false:=by cases nl<;>simp [Fl.forked] at hfl<;>rfl
 have hflold:fl.old=true:=by cases nl<;>simp [Fl.forked] at hfl<;>subst hfl<;>rfl
 have hflkid:nl.kid=true→fl.kid=true:=by cases nl<;>simp [Fl.forked] at hfl<;>subst hfl<;>simp [Fl.kid]
 have hnn:nl= .nil↔fl= .nil:=by cases nl<;>simp [Fl.forked] at hfl<;>subst hfl<;>simp
 obtain ⟨d1,e1,e2,e3,e4,e5⟩:=flag_sound h hid hnn (fun j nl0 sz0 es0 hj hs hbk0 he _=>by
  obtain ⟨k1,k2,k3,k4,k5⟩:=elder h hid hbk hnew0 hj hs hbk0 he
  exact ⟨fun q=>by omega,fun _=>hflkid k2⟩)
 have hd1id:d1.H[id]?=some (.live fl sz es):=by rw [e2];simp [hidlt]
 have hd1:∀ j,j≠id→d1.H[j]?=c.H[j]?:=fun j hj=>by rw [e2,List.getElem?_set_ne (fun q=>hj q.symm)]
 have hbk1:¬(fl= .nil∧es=[]):=fun q=>hes q.2
 have hpl1:Room d1.H pl:=by
  rcases hpl with q | q
  ·left;rw [hd1 pl (by omega)];exact q
  ·right;rw [e2];simpa using q
 have hno:∀ o:Obj,o≠ .rsv→d1.H[pl]?≠some o:=by
  intro o ho e
  rcases hpl1 with q | q
  ·rw [q] at e;injection e with e;exact ho e.symm
  ·rw [q] at e;simp at e
 obtain ⟨cells,elem,b1,b2,b3,b4,b5⟩:=h.hr.back _ _ _ _ hid hbk
 simp only [Nat.zero_mul] at hcap ⊢
 have hcapK:cap=c.K id:=by omega
 have hro:Row c sz es (cells.extract 0 (es.length*sz)):=by
  intro i hi
  obtain ⟨g1,g2⟩:=b5 i hi
  refine ⟨g1,fun j hj=>?_⟩
  obtain ⟨q,hq,hv⟩:=g2 j hj
  refine ⟨q,?_,hv⟩
  have:=Nat.mul_le_mul_right sz (show i+1≤es.length by omega)
  rw [Nat.add_mul,Nat.one_mul] at this
  have hmul:es.length*sz≤c.K id*sz:=Nat.mul_le_mul_right sz b3
  rw [Array.getElem?_extract]
  rw [if_pos (by omega),Nat.zero_add];exact hq
 have hos:(cells.extract 0 (es.length*sz)).size=es.length*sz:=by
  have hmul:es.length*sz≤c.K id*sz:=Nat.mul_le_mul_right sz b3
  simp;omega
 by_cases hroom:es.length+new.length≤cap
 ·have hmul:es.length*sz+new.length*sz≤c.K id*sz:=by
   rw [←Nat.add_mul];exact Nat.mul_le_mul_right sz (by omega)
  have hal:arr.toList.length=new.length*sz:=by simpa using l3
  have hst:=run_storeCells_at P (c.ι id) (es.length*sz) elem arr.toList 0 cells c.w b1 (by rw [hal,b2];omega) l5
  simp only [Nat.add_zero] at hst
  generalize hnewc:(cells.toList.take (es.length*sz)++arr.toList++cells.toList.drop (es.length*sz+arr.toList.length)).toArray=cells' at hst
  have hsplit:cells'=(cells.extract 0 (es.length*sz))++arr++(cells.extract (es.length*sz+arr.size) cells.size):=by
   rw [←hnewc];apply Array.ext';simp [List.take_of_length_le]
  have hsize:cells'.size=cells.size:=by rw [hsplit];simp;omega
  have hpre:∀ q,q < es.length*sz→cells'[q]?=cells[q]?:=by
   intro q hq
   rw [hsplit,Array.getElem?_append_left (by simp;omega),Array.getElem?_append_left (by simp;omega),Array.getElem?_extract,if_pos (by omega),Nat.zero_add]
  obtain ⟨dd,f1,f2,f3,f4,f5,f6,f7⟩:=upd e3.1 pl (c.ι id) (c.K id) .ch sz (es++new) cells' elem (c.w.setRow (c.ι id) cells') (putObj d1.H pl (.live .ch sz (es++new)))
   (put_le _) (put_self hpl1 _) (fun j hj=> .inl (put_other hpl1 _ j hj)) (hno _ (by simp)) (ns_no hno) (fun nl0 sz0 es0 hs=>(hno _ (by simp) hs).elim) (by simp)
   (by rw [e1];exact Same.setRow b1) (by rw [e1];simp) (fun b _ hne=>by rw [e1];exact setRow_other c.w _ b _ hne) (setRow_heap c.w _ cells cells' elem _ b1)
   (.inr ⟨id,fl,sz,es,hd1id,hbk1,by rw [e4]⟩)
   (fun j nl0 sz0 es0 hj hs hbk0 he=>by
    rw [e4] at he
    have hcl:∀ cl el,d1.w.heap[c.ι id]?=some (.cells cl el (0,0))→es0.length≤es.length→sz0=sz→cells'.size=cl.size∧∀ q,q < es0.length*sz0→cells'[q]?=cl[q]?:=by
     intro cl el hcl h1 h2
     rw [e1,b1] at hcl
     injection hcl with hcl;injection hcl with hcl1 hcl2
     subst hcl1
     refine ⟨hsize,fun q hq=>hpre q ?_⟩
     rw [h2] at hq
     have:=Nat.mul_le_mul_right sz h1
     omega
    by_cases hji:j=id
    ·subst hji
     rw [hd1id] at hs;injection hs with hs;injection hs with a1 a2 a3;subst a1;subst a2;subst a3
     exact ⟨hflold,rfl,rfl,by simp,hlt,fun cl el q=>hcl cl el q (Nat.le_refl _) rfl⟩
    ·rw [hd1 j hji] at hs
     obtain ⟨k1,k2,k3,k4,k5⟩:=elder h hid hbk hnew0 hji hs hbk0 he
     exact ⟨k1,rfl,k3,by simp;omega,by omega,fun cl el q=>hcl cl el q k4 k3⟩)
   (by rw [hsize,b2]) (by rw [List.length_append];omega) (by
    rw [hsplit]
    exact Row.went (extract_elems hro hos l4 l3) e3.2.1)
  refine ⟨dd,by rw [f2,e2],Went.trans e3 ⟨f3,f4,f5⟩,.slice (some ⟨c.ι id,0,none⟩) (es.length+new.length) cap,?_,.own _ _ _ _ _ ⟨by rw [Has,f2];exact ⟨put_lt hpl1 _,by rw [put_self hpl1];simp⟩,⟨_,_,rfl⟩,fun nl' sz'' es'' hs'=>?_⟩⟩
  ·rw [run_app_room (P:=P) (ty:=ty) ht hu hd hsz c.w (l1 c.w) (l2 c.w rfl) hroom hst,f1]
  ·rw [f2,put_self hpl1] at hs'
   simp at hs'
   obtain ⟨rfl,rfl,rfl⟩:=hs'
   exact ⟨by simp,fun _=>⟨by simp,.inr ⟨by simp,cap,by simp [f6],by simp [f7,hcapK]⟩⟩⟩
 ·have hfo:∀ w':World,w'.heap=c.w.heap→(Builtin.firstCells sz es.length (.slice (some ⟨c.ι id,0,none⟩) es.length cap)).run P w'= .ok (cells.extract 0 (es.length*sz)) w':=by
   intro w' hw
   simp only [Builtin.firstCells]
   have hmul:es.length*sz≤c.K id*sz:=Nat.mul_le_mul_right sz b3
   rw [run_loadCells (P:=P) w' ⟨c.ι id,0,none⟩ (es.length*sz) (fun q=>(cells[q]?).getD undef) (fun q hq=>by
    rw [add_eq,Nat.zero_add]
    simp only [World.cell?,hw,b1]
    have:q < cells.size:=by rw [b2];omega
    simp [this])]
   congr 1
   apply Array.ext
   ·simp;omega
   ·intro q h1 h2
    simp at h1 h2
    have:q < cells.size:=by omega
    simp [this]
  obtain ⟨cap',rest,k,hcap',hrest,hrun⟩:=run_app_grow (P:=P) (ty:=ty) ht hu hd hsz hby hz hzl c.w (l1 c.w) l2 hfo (by omega) hb1 hb2
  obtain ⟨hS,hVV,hF⟩:=e3.1.drawn k
  have hrow:Row { d1 with w:={ d1.w with drawn:=k } } sz (es++new) (cells.extract 0 (es.length*sz)++arr++rest):=Row.went (Row.went (extract_elems hro hos l4 l3) e3.2.1) hVV
  obtain ⟨dd,f1,f2,f3,f4,f5,f6,f7⟩:=upd hS pl d1.w.heap.size cap' .ch sz (es++new) (cells.extract 0 (es.length*sz)++arr++rest) e { d1.w with drawn:=k,heap:=d1.w.heap.push (.cells (cells.extract 0 (es.length*sz)++arr++rest) e) } (putObj d1.H pl (.live .ch sz (es++new)))
   (put_le _) (put_self hpl1 _) (fun j hj=> .inl (put_other hpl1 _ j hj)) (hno _ (by simp)) (ns_no hno) (fun nl0 sz0 es0 hs=>(hno _ (by simp) hs).elim) (by simp)
   (Same.push { d1.w with drawn:=k } (cells.extract 0 (es.length*sz)++arr++rest) e k) (by simp) (fun b hlt' _=>by simp only [Array.getElem?_push];rw [if_neg (by have:b < d1.w.heap.size:=hlt';omega)])
   (by simp) (.inl rfl) (fun j nl0 sz0 es0 _ hs hbk0 he=>(fresh_ne hS hs hbk0 he).elim) (by
    simp only [Array.size_append,l3,hos,hrest,←Nat.add_mul];congr 1;omega) (by simp;omega) hrow
  refine ⟨dd,by rw [f2,e2],Went.trans e3 (Went.trans ⟨hS,hVV,hF⟩ ⟨f3,f4,f5⟩),.slice (some ⟨c.w.heap.size,0,none⟩) (es.length+new.length) cap',by rw [hrun,f1,e1],.own _ _ _ _ _ ⟨by rw [Has,f2];exact ⟨put_lt hpl1 _,by rw [put_self hpl1];simp⟩,⟨_,_,rfl⟩,fun nl' sz'' es'' hs'=>?_⟩⟩
  rw [f2,put_self hpl1] at hs'
  simp at hs'
  obtain ⟨rfl,rfl,rfl⟩:=hs'
  exact ⟨by simp,fun _=>⟨by simp,.inr ⟨by simp,cap',by simp [f6,e1],by simp [f7]⟩⟩⟩
theorem run_app_zero {t u ty e:TypeId} {sz bytes:Nat} {k:IntKind} (ht:P.underlying t=some (.slice e)) (hu:P.underlying u=some (.int k))
 (hsz:szOf P e=some sz) (hby:bytesOf P e=some bytes) {i:TypeInfo} {zv:Value} (hi:P.info? e=some i) (hzv:i.zero=some zv) (hzl:zv.cells.size=sz) {m:Nat} (w:World)
 (h0:0 < m) (hb1:m*bytes≤2 ^ 40) (hb2:m≤2 ^ 40):
 ∃ cap rest q,m≤cap∧rest.size=(cap - m)*sz∧
  (Builtin.append_ #[t,u] ty #[.slice none 0 0,.int .i64 m]).run P w=
   .ok (.slice (some ⟨w.heap.size,0,none⟩) m cap) { w with drawn:=q,heap:=w.heap.push (.cells ((if m*sz=0 then #[] else Builtin.zeroCells zv.cells m)++rest) e) }:=by
 have hib:i.bytes=bytes:=by
  unfold bytesOf at hby;rw [hi] at hby;injection hby
 let cap:=(Question.appendCap m 0 e).cut (w.tape w.drawn (.appendCap m 0 e))
 have hge:m≤cap:=by simp [cap,Question.cut]
 have h40:(2:Nat)^40=1099511627776:=by decide
 have hwrap:IntKind.i64.wrap (m:Int)=m:=by
  unfold IntKind.wrap
  have e1:(2:Int) ^ IntKind.i64.bits=18446744073709551616:=by decide
  have e2:(2:Int) ^ (IntKind.i64.bits - 1)=9223372036854775808:=by decide
  simp only [e1,e2,IntKind.signed]
  have e3:(m:Int) % 18446744073709551616=m:=Int.emod_eq_of_lt (by omega) (by omega)
  rw [e3,if_neg]
  simp only [Bool.true_and,decide_eq_true_eq]
  omega
 refine ⟨cap,Builtin.zeroCells zv.cells (cap - m),w.drawn+1,hge,?_,?_⟩
 ·rw [size_zeroCells,hzl]
 ·have h63:¬ (((0+m:Nat):Int) > IntKind.i64.max∧(True∨bytes=0)):=by
   have h2:IntKind.i64.max=9223372036854775807:=by decide
   rw [h2];omega
  have h48:=fits (bytes:=bytes) (need:=0+m) (old:=0) (by omega) (by simpa using hb1)
  have hneg:¬ ((m:Int) < 0):=by omega
  have hmul:¬ ((m:Int)*(bytes:Int) > 2 ^ 48):=by
   have h48':(2:Int)^48=281474976710656:=by decide
   have:((m*bytes:Nat):Int)=(m:Int)*bytes:=by simp
   omega
  have hti:∀ w,(typeInfo e).run P w= .ok i w:=fun w=>by simp [typeInfo,hi]
  have hfor:(Question.appendCap (0+m) 0 e).forced=false:=rfl
  have hfo:∀ w':World,(Builtin.firstCells sz 0 (.slice none 0 0)).run P w'= .ok #[] w':=fun w'=>by simp [Builtin.firstCells]
  have hroom:¬ (0+m≤0):=by omega
  unfold Builtin.append_
  simp only [List.getElem?_toArray,List.getElem?_cons_zero,List.getElem?_cons_succ,Sem.run_bind,run_under ht,run_under hu,Result.andThen_ok,run_szOf hsz,Sem.run_pure,
   if_true,asInt,asIntOf,hwrap,Sem.run_ite,hneg,if_false,hti,hib,hmul,Int.toNat_natCast,hroom]
  rw [if_neg h63]
  simp only [h48,if_false,run_choose,hfor,run_askRoom,Result.andThen_ok,hfo,Bool.not_true,Bool.false_eq_true]
  by_cases hz0:m*sz=0
  ·simp only [hz0,if_true,Sem.run_pure,Result.andThen_ok,run_zero hi hzv,run_newRow,Nat.zero_add,Array.empty_append]
   rfl
  ·simp only [hz0,if_false,Sem.run_pure,Result.andThen_ok,run_zero hi hzv,run_newRow,Nat.zero_add,Array.empty_append]
   rfl
theorem append_V (h:SR F c) {pl:Nat} (hpl:Room c.H pl) {t u ty e:TypeId} {sz bytes:Nat} {d:TypeDesc} (ht:P.underlying t=some (.slice e)) (hu:P.underlying u=some d) (hd:(∃ e',d= .slice e')∨d= .string)
 (hsz:szOf P e=some sz) (hby:bytesOf P e=some bytes) {z:List AV} (hz:zeroOf P e=some z) (hzl:z.length=sz) {s x r:AV} {sv xv:Value} (hs:V c s sv) (hx:V c x xv) {H':List Obj}
 (ha:append c.H pl sz bytes s x=some (r,H')):∃ dd:Ctx,dd.H=H'∧Went F c dd∧∃ v,(Builtin.append_ #[t,u] ty #[sv,xv]).run P c.w= .ok v dd.w∧V dd r v:=by
 unfold append at ha
 split at ha
 case h_1=>simp at ha
 rename_i new hnew
 split at ha
 case isFalse=>simp at ha
 rename_i hall
 obtain ⟨arr,l1,l2,l3,l4,l5⟩:=src_V (P:=P) h.hr hx hnew hall
 split at ha
 ·cases hs
  split at ha
  ·rename_i hne
   subst hne
   simp only [Option.some.injEq,Prod.mk.injEq] at ha
   obtain ⟨rfl,rfl⟩:=ha
   refine ⟨c,rfl,Went.refl h,.slice none 0 0,?_,.nils⟩
   have harr:arr=#[]:=by simpa using l3
   have q1:=l1 c.w
   have q2:=l2 c.w rfl
   simp only [List.length_nil] at q1 q2
   unfold Builtin.append_
   rcases hd with ⟨e',rfl⟩ | rfl
   all_goals simp [run_under ht,run_under hu,run_szOf hsz,q1,q2]
  ·rename_i hne
   split at ha
   case isFalse=>simp at ha
   rename_i hb
   simp only [Option.some.injEq,Prod.mk.injEq] at ha
   obtain ⟨rfl,rfl⟩:=ha
   have h0:0 < new.length:=List.length_pos_iff.2 hne
   obtain ⟨cap,rest,k,hcap,hrest,hrun⟩:=run_app_grow (P:=P) (ty:=ty) ht hu hd hsz hby hz hzl c.w (l1 c.w) l2 (base:=none) (sLen:=0) (sCap:=0) (old:=#[])
    (fun w' _=>by simp [Builtin.firstCells]) (by omega) (by simpa using hb.1) (by simpa using hb.2)
   obtain ⟨hS,hVV,hF⟩:=h.drawn k
   have hrow:Row c sz ([]++new) (#[]++arr++rest):=extract_elems (fun i hi=>by simp at hi) (by simp) l4 l3
   simp only [List.nil_append] at hrow
   obtain ⟨dd,d1,d2,d3,d4⟩:=made_slice hS hpl cap sz new (#[]++arr++rest) e (by
    simp only [Array.empty_append,Array.size_append,l3,hrest,←Nat.add_mul];congr 1;omega) (by omega) (Row.went hrow hVV)
   refine ⟨dd,d2,Went.trans ⟨hS,hVV,hF⟩ d3,_,?_,d4⟩
   rw [hrun,d1]
   simp
 ·rename_i id ext off len
  split at ha
  case h_2=>simp at ha
  rename_i sz' es hl
  obtain ⟨nl,hid⟩:=getLive_some hl
  split at ha
  case isFalse=>simp at ha
  rename_i hc
  obtain ⟨hext,rfl,hlen,rfl,hb1,hb2⟩:=hc
  have hnl:nlAt c.H id=nl:=by simp [nlAt,hid]
  rw [hnl] at ha
  have hidlt:=lt_of_some hid
  split at ha
  case isFalse hg=>
   split at ha
   case h_2=>simp at ha
   rename_i fl hfl
   split at ha
   case isFalse=>simp at ha
   rename_i hq
   obtain ⟨hpl1,hes,hne⟩:=hq
   simp only [Option.some.injEq,Prod.mk.injEq] at ha
   obtain ⟨rfl,rfl⟩:=ha
   exact fork_V h hpl ht hu hd hsz hby hz hzl hs hid hext hlen hb1 hb2 hfl hpl1 hes hne l1 l2 l3 l4 l5
  rename_i hg
  simp only [Option.some.injEq,Prod.mk.injEq] at ha
  obtain ⟨rfl,rfl⟩:=ha
  have hold:nl.old=false:=by cases nl<;>simp [Fl.grows] at hg<;>rfl
  cases hs with
  | own _ _ _ _ _ how=>
  obtain ⟨_,_,how⟩:=how
  obtain ⟨hle,how⟩:=how _ _ _ hid
  obtain ⟨hol,how⟩:=how hext
  have grow:∀ (base:Option Addr) (sCap:Nat) (old:Array Value),(∀ w':World,w'.heap=c.w.heap→(Builtin.firstCells sz' es.length (.slice base es.length sCap)).run P w'= .ok old w')→
   Row c sz' es old→old.size=es.length*sz'→sCap < es.length+new.length→new≠[]→
   ∃ dd:Ctx,dd.H=c.H.set id (.live nl sz' (es++new))∧Went F c dd∧∃ v,(Builtin.append_ #[t,u] ty #[.slice base es.length sCap,xv]).run P c.w= .ok v dd.w∧
    V dd (.own id (es.length+new.length) 0 (es.length+new.length)) v:=by
   intro base sCap old hfo hro hos hroom hne
   obtain ⟨cap,rest,k,hcap,hrest,hrun⟩:=run_app_grow (P:=P) (ty:=ty) ht hu hd hsz hby hz hzl c.w (l1 c.w) l2 hfo hroom hb1 hb2
   obtain ⟨hS,hVV,hF⟩:=h.drawn k
   have hrow:Row { c with w:={ c.w with drawn:=k } } sz' (es++new) (old++arr++rest):=Row.went (extract_elems hro hos l4 l3) hVV
   obtain ⟨dd,d1,d2,d3,d4,d5,d6,d7⟩:=upd hS id c.w.heap.size cap nl sz' (es++new) (old++arr++rest) e { c.w with drawn:=k,heap:=c.w.heap.push (.cells (old++arr++rest) e) } (c.H.set id (.live nl sz' (es++new)))
    (by simp) (by simp [hidlt]) (fun j hj=>by left;rw [List.getElem?_set_ne (fun q=>hj q.symm)]) (by rw [hid];simp) (ns_of hid)
    (fun nl0 sz0 es0 h0=>by
     have h0':c.H[id]?=some (.live nl0 sz0 es0):=h0
     rw [hid] at h0';injection h0' with h0';injection h0' with q1 q2 q3
     subst q1;subst q2;subst q3
     refine ⟨rfl,rfl,by simp,fun hh=>?_⟩
     exfalso
     simp at hh
     exact hne hh)
    (by rintro ⟨_,q⟩;simp at q;exact hne q.2) (Same.push { c.w with drawn:=k } (old++arr++rest) e k) (by simp) (fun b hlt _=>by simp only [Array.getElem?_push];rw [if_neg (by have:b < c.w.heap.size:=hlt;omega)])
    (by simp) (.inl rfl) (fun j nl0 sz0 es0 _ hs hbk he=>(fresh_ne hS hs hbk he).elim) (by
     simp only [Array.size_append,l3,hos,hrest,←Nat.add_mul];congr 1;omega) (by simp;omega) hrow
   refine ⟨dd,d2,Went.trans ⟨hS,hVV,hF⟩ ⟨d3,d4,d5⟩,_,by rw [hrun,d1],.own _ _ _ _ _ ⟨by rw [Has,d2];simp [hidlt],⟨_,_,rfl⟩,fun nl' sz'' es'' hs'=>?_⟩⟩
   rw [d2] at hs'
   simp [hidlt] at hs'
   obtain ⟨rfl,rfl,rfl⟩:=hs'
   refine ⟨by simp,fun _=>⟨by simp,.inr ⟨by rintro ⟨_,q⟩;simp at q;exact hne q.2,cap,by simp [d6],by simp [d7]⟩⟩⟩
  rcases how with ⟨hnl1,hes,rfl⟩ | ⟨hbk,cap,rfl,hcap⟩
  ·subst hes
   have hlen0:len=0:=by simpa using hlen
   by_cases hne:new=[]
   ·subst hne
    have hH:c.H.set id (.live nl sz' ([]++[]))=c.H:=by
     apply List.ext_getElem?
     intro j
     by_cases hj:j=id
     ·subst hj;simp [hidlt];exact (List.getElem?_eq_some_iff.1 hid).2.symm
     ·rw [List.getElem?_set_ne (fun q=>hj q.symm)]
    refine ⟨c,hH.symm,Went.refl h,.slice none 0 0,?_,.own _ _ _ _ _ ⟨⟨hidlt,by rw [hid];simp⟩,⟨_,_,rfl⟩,fun nl' sz'' es'' hs'=>?_⟩⟩
    ·have q1:=l1 c.w
     have q2:=l2 c.w rfl
     simp only [List.length_nil] at q1 q2
     unfold Builtin.append_
     rcases hd with ⟨e',rfl⟩ | rfl
     all_goals simp [run_under ht,run_under hu,run_szOf hsz,q1,q2]
    ·rw [hid] at hs';injection hs' with hs';injection hs' with q1 q2 q3
     subst q1;subst q2;subst q3
     exact ⟨by simp,fun _=>⟨by simp,.inl ⟨hnl1,rfl,rfl⟩⟩⟩
   ·have h0:0 < new.length:=List.length_pos_iff.2 hne
    exact grow none 0 #[] (fun w' _=>by simp [Builtin.firstCells]) (fun i hi=>by simp at hi) (by simp) (by simp;omega) hne
  ·obtain ⟨cells,elem,b1,b2,b3,b4,b5⟩:=h.hr.back _ _ _ _ hid hbk
   simp only [Nat.zero_mul] at hcap ⊢
   have hcapK:cap=c.K id:=by omega
   subst hlen
   by_cases hroom:es.length+new.length≤cap
   ·have hmul:es.length*sz'+new.length*sz'≤c.K id*sz':=by
     rw [←Nat.add_mul];exact Nat.mul_le_mul_right sz' (by omega)
    have hal:arr.toList.length=new.length*sz':=by simpa using l3
    have hst:=run_storeCells_at P (c.ι id) (es.length*sz') elem arr.toList 0 cells c.w b1 (by rw [hal,b2];omega) l5
    simp only [Nat.add_zero] at hst
    generalize hnewc:(cells.toList.take (es.length*sz')++arr.toList++cells.toList.drop (es.length*sz'+arr.toList.length)).toArray=cells' at hst
    have hsplit:cells'=(cells.extract 0 (es.length*sz'))++arr++(cells.extract (es.length*sz'+arr.size) cells.size):=by
     rw [←hnewc];apply Array.ext';simp [List.take_of_length_le]
    have hos:(cells.extract 0 (es.length*sz')).size=es.length*sz':=by simp;omega
    have hro:Row c sz' es (cells.extract 0 (es.length*sz')):=by
     intro i hi
     obtain ⟨g1,g2⟩:=b5 i hi
     refine ⟨g1,fun j hj=>?_⟩
     obtain ⟨q,hq,hv⟩:=g2 j hj
     refine ⟨q,?_,hv⟩
     have:=Nat.mul_le_mul_right sz' (show i+1≤es.length by omega)
     rw [Nat.add_mul,Nat.one_mul] at this
     rw [Array.getElem?_extract]
     rw [if_pos (by omega),Nat.zero_add];exact hq
    have hsize:cells'.size=cells.size:=by rw [hsplit];simp;omega
    obtain ⟨dd,d1,d2,d3,d4,d5,d6,d7⟩:=upd h id (c.ι id) (c.K id) nl sz' (es++new) cells' elem (c.w.setRow (c.ι id) cells') (c.H.set id (.live nl sz' (es++new)))
     (by simp) (by simp [hidlt]) (fun j hj=>by left;rw [List.getElem?_set_ne (fun q=>hj q.symm)]) (by rw [hid];simp) (ns_of hid)
     (fun nl0 sz0 es0 h0=>by
      rw [hid] at h0;injection h0 with h0;injection h0 with q1 q2 q3
      subst q1;subst q2;subst q3
      exact ⟨rfl,rfl,by simp,fun _=>⟨hbk,rfl,rfl⟩⟩)
     (by rintro ⟨q1,q⟩;simp at q;exact hbk ⟨q1,q.1⟩) (Same.setRow b1) (by simp) (fun b _ hne=>setRow_other c.w _ b _ hne)
     (setRow_heap c.w _ cells cells' elem _ b1) (.inr ⟨id,nl,sz',es,hid,hbk,rfl⟩)
     (fun j nl0 sz0 es0 hj hs hbk0 he=>by
      obtain ⟨k1,k2,k3,k4,k5⟩:=elder h hid hbk hold hj hs hbk0 he
      refine ⟨k1,k2,k3,by simp;omega,k5,fun cl el hcl=>?_⟩
      rw [b1] at hcl
      injection hcl with hcl;injection hcl with hcl1 hcl2
      subst hcl1
      refine ⟨hsize,fun q hq=>?_⟩
      have hm:=Nat.mul_le_mul_right sz' k4
      rw [k3] at hq
      rw [hsplit,Array.getElem?_append_left (by simp;omega),Array.getElem?_append_left (by simp;omega),Array.getElem?_extract,if_pos (by omega),Nat.zero_add])
     (by rw [hsize,b2]) (by rw [List.length_append];omega) (by rw [hsplit];exact extract_elems hro hos l4 l3)
    refine ⟨dd,d2,⟨d3,d4,d5⟩,.slice (some ⟨c.ι id,0,none⟩) (es.length+new.length) cap,?_,.own _ _ _ _ _ ⟨by rw [Has,d2];simp [hidlt],⟨_,_,rfl⟩,fun nl' sz'' es'' hs'=>?_⟩⟩
    ·rw [run_app_room (P:=P) (ty:=ty) ht hu hd hsz c.w (l1 c.w) (l2 c.w rfl) hroom hst,d1]
    ·rw [d2] at hs'
     simp [hidlt] at hs'
     obtain ⟨rfl,rfl,rfl⟩:=hs'
     refine ⟨by simp,fun _=>⟨by simp,.inr ⟨by rintro ⟨q1,q⟩;simp at q;exact hbk ⟨q1,q.1⟩,cap,by simp [d6],by simp [d7,hcapK]⟩⟩⟩
   ·by_cases hne:new=[]
    ·subst hne;simp at hroom;omega
    ·have hfo:∀ w':World,w'.heap=c.w.heap→(Builtin.firstCells sz' es.length (.slice (some ⟨c.ι id,0,none⟩) es.length cap)).run P w'= .ok (cells.extract 0 (es.length*sz')) w':=by
      intro w' hw
      simp only [Builtin.firstCells]
      have hmul:es.length*sz'≤c.K id*sz':=Nat.mul_le_mul_right sz' b3
      rw [run_loadCells (P:=P) w' ⟨c.ι id,0,none⟩ (es.length*sz') (fun q=>(cells[q]?).getD undef) (fun q hq=>by
       rw [add_eq,Nat.zero_add]
       simp only [World.cell?,hw,b1]
       have:q < cells.size:=by rw [b2];omega
       simp [this])]
      congr 1
      apply Array.ext
      ·simp;omega
      ·intro q h1 h2
       simp at h1 h2
       have:q < cells.size:=by omega
       simp [this]
     have hro:Row c sz' es (cells.extract 0 (es.length*sz')):=by
      intro i hi
      obtain ⟨g1,g2⟩:=b5 i hi
      refine ⟨g1,fun j hj=>?_⟩
      obtain ⟨q,hq,hv⟩:=g2 j hj
      refine ⟨q,?_,hv⟩
      have:=Nat.mul_le_mul_right sz' (show i+1≤es.length by omega)
      rw [Nat.add_mul,Nat.one_mul] at this
      have hmul:es.length*sz'≤c.K id*sz':=Nat.mul_le_mul_right sz' b3
      rw [Array.getElem?_extract]
      rw [if_pos (by omega),Nat.zero_add];exact hq
     exact grow _ cap _ hfo hro (by
      have hmul:es.length*sz'≤c.K id*sz':=Nat.mul_le_mul_right sz' b3
      simp;omega) (by omega) hne
 ·simp at ha
end
end Go.Am
