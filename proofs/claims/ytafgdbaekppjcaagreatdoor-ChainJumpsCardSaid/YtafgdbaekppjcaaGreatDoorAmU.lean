/- Parts of my machine and its laws, joined: AmU AmV. No condition. -/
import Derived.Test.YtafgdbaekppjcaaGreatDoorAmT
set_option linter.unusedSectionVars false
set_option linter.unusedVariables false
set_option linter.unusedSimpArgs false
section
namespace Go.Am
section
variable {lo:Nat->Prop} {F:Fo} {c:Ctx} {G:Nat->List AV}
theorem FR.hY {d:Ctx} {s s':St} {a:Act} (hG:∀ g,AV.aR 0 (G g)=true) (h:FR lo F G c s a) (hw:dR F c d) (hH:d.H=s'.H) (ht:s'.tmps=s.tmps):FR lo F G d s' a:=
 ⟨hw.1,by rw [ht];exact h.tr.hY hw.2.1,hH,h.df.oQ h.sr (hw.2.2 0),h.gl.oQ hG (hw.2.2 0)⟩
theorem LP {x:AV} {v:Value} (h:V c x v):V c x.Jq v:=by
 unfold AV.Jq;split
 ·cases h;exact .CB
 ·exact h
theorem aaS {x:AV} {v:Value} (h:V c x v):V c x.wk2 v:=by
 unfold AV.wk2;split
 ·cases h;exact .CB
 ·cases h with
  | agg cs vs hs hv=>exact .agg _ _ (by simp [hs]) fun i hi hj=>by rw [zay];exact LP (hv i (by simpa using hi) hj)
 ·exact h
theorem adp {x:AV} {v:Value} (h:V c x v):V c x.wk v:=by
 unfold AV.wk;split
 ·cases h;exact .CB
 ·cases h with
  | agg cs vs hs hv=>exact .agg _ _ (by simp [hs]) fun i hi hj=>by rw [zay];exact LP (hv i (by simpa using hi) hj)
 ·cases h with
  | aY cs vs hs hv=>exact .aY _ _ (by simp [hs]) fun i hi hj=>by rw [zay];exact aaS (hv i (by simpa using hi) hj)
 ·exact h
theorem sw (h:SR F c) (id:Nat) {o:Obj} (K8:c.H[id]?=some o):
 ∃ d:Ctx,d.w=c.w/\d.H=c.H.set id o.wk/\SR F d/\(∀ x v,V c x v->V d x v)/\∀ n,cK n c d:=by
 have same:∀ o':Obj,o=o'->∃ d:Ctx,d.w=c.w/\d.H=c.H.set id o'/\SR F d/\(∀ x v,V c x v->V d x v)/\∀ n,cK n c d:=by
  rintro o' rfl;refine ⟨c,rfl,?_,h,fun _ _ hv=>hv,fun n=>cK.refl n c⟩;apply zbL
  intro i;rw [List.getElem?_set];by_cases hi:id=i
  ·subst hi;obtain ⟨e1,e2⟩:=zab.1 K8;simp [e1,e2]
  ·simp [hi]
 cases o with
 | dead=>exact same _ rfl
 | ew=>exact same _ rfl
 | mp _=>exact same _ rfl
 | it _ _=>exact same _ rfl
 | lp _ _ _ _ _=>exact same _ rfl
 | live nl sz es=>
  have hid:=K8;have b8:=bn hid;let H':=c.H.set id (Obj.wk (.live nl sz es));have aL:∀ (i:Nat) bL br bt,H'[i]?=some (.live bL br bt)->∃ o6,c.H[i]?=some (.live bL br o6)/\o6.length=bt.length/\
   ∀ q (h0:q < bt.length) (h1:q < o6.length),bt[q]=o6[q]\/bt[q]=o6[q].map AV.Jq:=by
   intro i bL br bt hs;by_cases hi:i=id
   ·subst hi;simp only [H',zaG b8,Obj.wk,za2,Obj.live.injEq] at hs;obtain ⟨rfl,rfl,rfl⟩:=hs;exact ⟨es,hid,by simp,fun q h0 h1=> .inr (by simp)⟩
   ·refine ⟨bt,?_,rfl,fun q _ _=> .inl rfl⟩;rw [<-hs];simp only [H'];rw [za6 (fun q=>hi q.symm)]
  have ic:∀ {a b:List (List AV)},a.length=b.length->(b=[]->a=[]):=by
   intro a b hl hb;subst hb;exact List.length_eq_zero_iff.1 hl
  have hown:∀ b,bz H' c.ι b->bz c.H c.ι b:=by
   rintro b ⟨i,bL,br,bt,h1,h2,h3⟩;obtain ⟨o6,e1,e2,_⟩:=aL _ _ _ _ h1;exact ⟨i,bL,br,o6,e1,fun q=>h2 ⟨q.1,ic e2.symm q.2⟩,h3⟩
  let d:Ctx:=⟨c.w,fun b=>F b\/bz H' c.ι b,c.ι,c.K,H'⟩;have bY:∀ i,Has c i->Has d i:=by
   rintro i ⟨h1,h2⟩;refine ⟨by simpa [d,H'] using h1,fun e=>?_⟩;by_cases hi:i=id
   ·subst hi;simp [d,H',b8,Obj.wk] at e
   ·refine h2 ?_;rw [<-e];simp only [d,H'];rw [za6 (fun q=>hi q.symm)]
  have hsp:∀ j o,d.H[j]?=some o->o.sp=true->c.H[j]?=some o/\d.ι j=c.ι j/\d.w.heap[c.ι j]?=c.w.heap[c.ι j]?:=by
   intro j o h1 h2;refine ⟨?_,rfl,rfl⟩;by_cases hj:j=id
   ·subst hj;simp [d,H',b8,Obj.wk] at h1;subst h1;simp [Obj.sp] at h2
   ·rw [<-h1];simp only [d,H'];rw [za6 (fun q=>hj q.symm)]
  have hV:∀ x v,V c x v->V d x v:=by
   intro x v hv;refine V.mono ?_ ?_ ?_ ?_ (fun i b hs=>hs.keep bY hsp) hv
   ·intro b hnb _;refine ⟨rfl,?_⟩;rintro (hf | ho)
    ·exact hnb ((h.hO b).2 (.inl hf))
    ·exact hnb ((h.hO b).2 (.inr (hown b ho)))
   ·rintro i e o l v ⟨g1,g2,g3⟩;refine ⟨bY i g1,g2,fun bL br bt hs=>?_⟩;obtain ⟨o6,e1,e2,_⟩:=aL _ _ _ _ hs;obtain ⟨k1,k2⟩:=g3 bL br o6 e1;refine ⟨by omega,fun he=>?_⟩;obtain ⟨k3,k4⟩:=k2 (by omega);refine ⟨k3,?_⟩;rcases k4 with ⟨q1,q2,q3⟩ | ⟨q1,q2⟩
    ·exact .inl ⟨q1,ic e2.symm q2,q3⟩
    ·exact .inr ⟨fun q=>q1 ⟨q.1,ic e2 q.2⟩,q2⟩
   ·rintro i e o l v ⟨g1,q,g2,g3,g4⟩;refine ⟨bY i g1,q,g2,g3,fun bL br bt hs=>?_⟩;obtain ⟨o6,e1,e2,_⟩:=aL _ _ _ _ hs;obtain ⟨k1,k2⟩:=g4 bL br o6 e1;exact ⟨by omega,fun he=>k2 (by omega)⟩
   ·rintro i e o l k v ⟨g1,q,g2,g3,g4⟩;refine ⟨bY i g1,q,g2,g3,fun bL br bt hs=>?_⟩;obtain ⟨o6,e1,e2,_⟩:=aL _ _ _ _ hs;obtain ⟨k1,k2⟩:=g4 bL br o6 e1;exact ⟨by omega,fun he=>k2 (by omega)⟩
  have aU:∀ n,cK n c d:=fun n=>⟨za7 _,fun _ _ _ _=>rfl,fun x v _ hv=>hV x v hv,fun b ho=> .inl (hown b ho),fun hn=>by simpa [d,H'] using hn,cZ.refl _,fun b hb=> .inl (cD hsp hb)⟩
  refine ⟨d,rfl,rfl,⟨⟨?_,?_⟩,fun b=>Iff.rfl,h.hF,fun b ho=>h.eF b (hown b ho),h.x.keep hsp hV⟩,hV,aU⟩
  ·intro i bL br bt hs hbk;obtain ⟨o6,hs',e2,e3⟩:=aL _ _ _ _ hs;obtain ⟨cells,elem,g1,g2,g3,g4,g5⟩:=h.hr.back i bL br o6 hs' (fun q=>hbk ⟨q.1,ic e2.symm q.2⟩);refine ⟨cells,elem,g1,g2,by rw [<-e2];exact g3,.inr ⟨i,bL,br,bt,hs,hbk,rfl⟩,fun q hq=>?_⟩;obtain ⟨p1,p2⟩:=g5 q (by omega);rcases e3 q hq (by omega) with e | e
   ·refine ⟨by rw [e];exact p1,fun j hj=>?_⟩;obtain ⟨u,hu,hv⟩:=p2 j (by rw [e] at hj;exact hj);exact ⟨u,hu,by simp only [e];exact hV _ _ hv⟩
   ·refine ⟨by rw [e];simpa using p1,fun j hj=>?_⟩;obtain ⟨u,hu,hv⟩:=p2 j (by rw [e] at hj;simpa using hj);exact ⟨u,hu,by simp only [e,zay];exact LP (hV _ _ hv)⟩
  ·intro i i' _ _ _ _ _ _ h1 h2 h3 h4 he hlt;obtain ⟨_,e1,e2,_⟩:=aL _ _ _ _ h1;obtain ⟨_,e3,e4,_⟩:=aL _ _ _ _ h3;obtain ⟨k1,k2,k3,k4⟩:=h.hr.inj i i' _ _ _ _ _ _ e1 (fun q=>h2 ⟨q.1,ic e2.symm q.2⟩) e3 (fun q=>h4 ⟨q.1,ic e4.symm q.2⟩) he hlt;exact ⟨k1,k2,k3,by omega⟩
theorem JT (h:SR F c) (x:AV):∃ d:Ctx,d.w=c.w/\d.H=P6 c.H x/\SR F d/\(∀ x v,V c x v->V d x v)/\∀ n,cK n c d:=by
 have no:∃ d:Ctx,d.w=c.w/\d.H=c.H/\SR F d/\(∀ x v,V c x v->V d x v)/\∀ n,cK n c d:=⟨c,rfl,rfl,h,fun _ _ hv=>hv,fun n=>cK.refl n c⟩;unfold P6;split
 ·split
  ·rename_i hid;exact sw h _ hid
  ·exact no
 ·split
  ·rename_i hid;exact sw h _ hid
  ·exact no
 ·exact no
theorem z0 (hG:∀ g,AV.aR 0 (G g)=true) {a:Act}:∀ (l:List Nat) {c:Ctx} {s:St},FR lo F G c s a->∃ d:Ctx,d.w=c.w/\FR lo F G d (Yy l s) a/\∀ n,cK n c d
 | [],c,s,h=>⟨c,rfl,h,fun n=>cK.refl n c⟩
 | t::ts,c,s,h=>by
  obtain ⟨d,d1,d2,d3,d4,d5⟩:=JT h.sr (s.tmps.getD t .any);have h2:FR lo F G d ⟨s.tmps.set t (s.tmps.getD t .any).wk,P6 s.H (s.tmps.getD t .any)⟩ a:=by
   refine ⟨d3,TR.set (h.tr.hY d4) t (fun hj=>?_),by rw [d2,h.hH],h.df.oQ h.sr (d5 0),h.gl.oQ hG (d5 0)⟩;have hi:t < s.tmps.length:=by have:=h.tr.1;omega
   have e:s.tmps.getD t .any=s.tmps[t]:=by simp [List.getD,hi]
   rw [e];exact adp (d4 _ _ (h.tr.2 t hi hj))
  obtain ⟨e,e1,e2,e3⟩:=z0 hG ts h2;exact ⟨e,by rw [e1,d1],e2,fun n=>(d5 n).trans (e3 n)⟩
theorem x6 (h:SR F c) {id:Nat} {nl fl:Fl} {sz:Nat} {es:List (List AV)} (hid:c.H[id]?=some (.live nl sz es)) (hn:nl= .nil↔fl= .nil)
 (ho:nl.old=true->fl.old=true\/∀ j bL br bt,id < j->c.H[j]?=some (.live bL br bt)->bL.CC=false) (hk:nl.CC=true->fl.CC=true):
 ∃ d:Ctx,d.w=c.w/\d.H=c.H.set id (.live fl sz es)/\dR F c d:=by
 obtain ⟨d,d1,d2,d3,_⟩:=x7 h hid hn (fun j bL br bt hj hs kn he hbk=>by
  refine ⟨fun hlt=>?_,fun hlt=>?_⟩
  ·obtain ⟨k1,k2,_⟩:=h.hr.inj id j _ _ _ _ _ _ hid hbk hs kn he.symm hlt;rcases ho k1 with q | q
   ·exact q
   ·rw [q _ _ _ _ hlt hs] at k2;simp at k2
  ·obtain ⟨k1,k2,_⟩:=h.hr.inj j id _ _ _ _ _ _ hs kn hid hbk he hlt;exact hk k2)
 exact ⟨d,d1,d2,d3⟩
theorem z3:∀ {l:List Obj},vZ l=true->∀ {i:Nat} {nl:Fl} {sz:Nat} {es:List (List AV)},l[i]?=some (Obj.live nl sz es)->nl.CC=false
 | [],_,i,nl,sz,es,h=>by simp at h
 | o::r,hn,i,nl,sz,es,h=>by
  cases i with
  | zero=>
   simp at h;subst h;simp [vZ] at hn;exact hn.1
  | succ i=>
   simp at h;refine z3 (l:=r) ?_ h
   cases o<;>simp [vZ] at hn
   ·exact hn.2
   all_goals exact hn
theorem JU (hG:∀ g,AV.aR 0 (G g)=true) {base:Nat} {s:St} {a:Act} (h:FR lo F G c s a) {t id ext len sz:Nat} {es:List (List AV)} (hb:base<=id) (nA:id+1=c.H.length) (hid:c.H[id]?=some (.live .norm sz es))
 (eU:ext=es.length) (hle:len<=ext) (Fw:t < s.tmps.length) (hte:s.tmps[t]= .own id ext 0 len) (hbt:AV.aR id (s.tmps.set t .any)=true) (Yz:bT id (c.H.take id)=true) (hbe:AV.bO id es=true):
 ∃ d:Ctx,d.w=c.w/\FR lo F G d ⟨s.tmps.set t (.own id len 0 len),s.H.set id (.live .norm sz (es.take len))⟩ a/\cK base c d:=by
 have b8:=bn hid;let H':=c.H.set id (.live .norm sz (es.take len));let d:Ctx:=⟨c.w,c.O,c.ι,c.K,H'⟩;have hne:∀ i,i≠id->H'[i]?=c.H[i]?:=fun i hi=>by simp only [H'];rw [za6 (fun q=>hi q.symm)]
 have we:H'[id]?=some (.live .norm sz (es.take len)):=by simp only [H'];rw [zaG b8]
 have bY:∀ i,Has c i->Has d i:=by
  rintro i ⟨h1,h2⟩;refine ⟨by simpa [d,H'] using h1,fun e=>?_⟩;by_cases hi:i=id
  ·subst hi;rw [show d.H=H' from rfl,we] at e;simp at e
  ·rw [show d.H=H' from rfl,hne i hi] at e;exact h2 e
 have hown:∀ b,bz H' c.ι b↔bz c.H c.ι b:=by
  intro b;constructor
  ·rintro ⟨i,nl,br,bt,h1,h2,h3⟩;by_cases hi:i=id
   ·subst hi;exact ⟨i,.norm,sz,es,hid,by simp,h3⟩
   ·exact ⟨i,nl,br,bt,by rw [<-hne i hi];exact h1,h2,h3⟩
  ·rintro ⟨i,nl,br,bt,h1,h2,h3⟩;by_cases hi:i=id
   ·subst hi;exact ⟨i,.norm,sz,es.take len,we,by simp,h3⟩
   ·exact ⟨i,nl,br,bt,by rw [hne i hi];exact h1,h2,h3⟩
 have hsp:∀ j o,d.H[j]?=some o->o.sp=true->c.H[j]?=some o/\d.ι j=c.ι j/\d.w.heap[c.ι j]?=c.w.heap[c.ι j]?:=by
  intro j o h1 h2;refine ⟨?_,rfl,rfl⟩;by_cases hj:j=id
  ·subst hj;rw [show d.H=H' from rfl,we] at h1;injection h1 with h1;subst h1;simp [Obj.sp] at h2
  ·rw [<-hne j hj];exact h1
 have hV:∀ x v,x.bD id=true->V c x v->V d x v:=by
  intro x v hx hv;refine V.monoB id ?_ ?_ ?_ ?_ (fun i b _ hs=>hs.keep bY hsp) hv hx
  ·intro b hnb _;exact ⟨rfl,hnb⟩
  ·rintro i e o l v hi ⟨g1,g2,g3⟩;exact ⟨bY i g1,g2,fun nl br bt hs=>g3 nl br bt (by rw [<-hne i (by omega)];exact hs)⟩
  ·rintro i e o l v hi ⟨g1,q,g2,g3,g4⟩;exact ⟨bY i g1,q,g2,g3,fun nl br bt hs=>g4 nl br bt (by rw [<-hne i (by omega)];exact hs)⟩
  ·rintro i e o l k v hi ⟨g1,q,g2,g3,g4⟩;exact ⟨bY i g1,q,g2,g3,fun nl br bt hs=>g4 nl br bt (by rw [<-hne i (by omega)];exact hs)⟩
 have aU:cK base c d:=⟨za7 _,fun _ _ _ _=>rfl,fun x v hx hv=>hV x v (fe hb x hx) hv,fun b ho=> .inl ((hown b).1 ho),fun hn=>by simpa [d,H'] using hn,cZ.refl _,fun b hb=> .inl (cD hsp hb)⟩;have KO:SR F d:=by
  refine ⟨⟨?_,?_⟩,fun b=>?_,h.sr.hF,fun b ho=>h.sr.eF b ((hown b).1 ho),h.sr.x.LQ hsp fun i o wo h1 h2 hs=>hs.monoB (m:=id) ?_ hV⟩
  rotate_left 3
  ·have hilt:i < id:=by
    have h3:=bn h1;rw [show d.H=H' from rfl] at h3;simp only [H',zbb] at h3;have:i≠id:=by rintro rfl;rw [show d.H=H' from rfl,we] at h1;injection h1 with h1;subst h1;simp [Obj.sp] at h2
    omega
   exact iS Yz i _ (by rw [zbn,if_pos hilt,<-hne i (by omega)];exact h1)
  ·intro i bL br bt hs hbk;by_cases hi:i=id
   ·subst hi;rw [show d.H=H' from rfl,we] at hs;injection hs with hs;injection hs with q1 q2 q3
    subst q1;subst q2;subst q3;obtain ⟨cells,elem,g1,g2,g3,g4,g5⟩:=h.sr.hr.back i .norm sz es hid (by simp);refine ⟨cells,elem,g1,g2,zaI (by simp [zbc];omega) g3,g4,fun q hq=>?_⟩;have To:q < es.length:=by simp [zbc] at hq;omega
    have heq:(es.take len)[q]=es[q]:=by simp
    refine ⟨by rw [heq];exact (g5 q To).1,fun j hj=>?_⟩;have hj':j < es[q].length:=by rw [heq] at hj;exact hj
    obtain ⟨u,hu,hv⟩:=(g5 q To).2 j hj';refine ⟨u,hu,?_⟩;have e2:(es.take len)[q][j]=es[q][j]:=by simp only [heq]
    rw [e2];exact hV _ _ (cJ (iu hbe q To) j hj') hv
   ·have hs':c.H[i]?=some (.live bL br bt):=by rw [<-hne i hi];exact hs
    obtain ⟨cells,elem,g1,g2,g3,g4,g5⟩:=h.sr.hr.back i bL br bt hs' hbk;have hilt:i < id:=by have:=bn hs';omega
    have oS:=iS Yz i _ (by rw [zbn,if_pos hilt];exact hs');simp only [Obj.bD] at oS;refine ⟨cells,elem,g1,g2,g3,g4,fun q hq=>⟨(g5 q hq).1,fun j hj=>?_⟩⟩;obtain ⟨u,hu,hv⟩:=(g5 q hq).2 j hj;exact ⟨u,hu,hV _ _ (cJ (iu oS q hq) j hj) hv⟩
  ·intro i i' bL br bt vI CD o6 h1 h2 h3 h4 he hlt;have hi':i≠id:=by
    intro e;have:=bn h3;rw [show d.H=H' from rfl] at this;simp only [H',zbb] at this;omega
   have Jx:c.H[i]?=some (.live bL br bt):=by rw [<-hne i hi'];exact h1
   by_cases hi:i'=id
   ·subst hi;rw [show d.H=H' from rfl,we] at h3;injection h3 with h3;injection h3 with q1 q2 q3
    subst q1;subst q2;subst q3;have:=h.sr.hr.inj i i' _ _ _ _ _ _ Jx h2 hid (by simp) he hlt;obtain ⟨p1,p2,_⟩:=this;simp [Fl.CC] at p2
   ·exact h.sr.hr.inj i i' _ _ _ _ _ _ Jx h2 (by rw [<-hne i' hi];exact h3) h4 he hlt
  ·exact (h.sr.hO b).trans ⟨fun q=>q.imp (fun z=>z) (hown b).2,fun q=>q.imp (fun z=>z) (hown b).1⟩
 refine ⟨d,rfl,⟨KO,⟨by simpa using h.tr.1,fun i hi hj=>?_⟩,by simp [d,H',h.hH],h.df,h.gl.oQ hG aU⟩,aU⟩;rw [zbY];split
 ·rename_i e;subst e;have hv:=h.tr.2 t Fw hj;rw [hte] at hv;generalize a.tmps[t]=tv at hv
  cases hv with
  | own _ _ _ _ _ how=>
   obtain ⟨q1,q2,how⟩:=how;refine .own _ _ _ _ _ ⟨bY _ q1,q2,fun bL br bt hs=>?_⟩;rw [show d.H=H' from rfl,we] at hs;injection hs with hs;injection hs with r1 r2 r3
   subst r1;subst r2;subst r3;obtain ⟨p1,how⟩:=how _ _ _ hid;obtain ⟨p2,how⟩:=how eU;refine ⟨by simp [zbc];omega,fun _=>⟨by omega,?_⟩⟩;rcases how with ⟨z1,_⟩ | ⟨_,cap,z1,z2⟩
   ·simp at z1
   ·exact .inr ⟨by simp,cap,z1,z2⟩
 ·rename_i e;have hilt:i < s.tmps.length:=by simpa using hi
  have JJ:=cJ hbt i (by simpa using hilt);rw [zbw e] at JJ;exact hV _ _ JJ (h.tr.2 i hilt hj)
theorem RM {j e o l:Nat} {H H1:List Obj} {r:AV} (h:ko 0 ⟨[.own j e o l],H⟩=some ⟨[r],H1⟩):H1=H.set j .dead/\r.cells=[r]:=by
 unfold ko at h;simp only [List.getD_cons_zero] at h;split at h
 ·split at h
  ·simp only [za2,St.mk.injEq,zbh,zaL,and_true] at h;obtain ⟨rfl,rfl⟩:=h;exact ⟨rfl,rfl⟩
  ·simp at h
 ·simp at h
theorem Cj (hG:∀ g,AV.aR 0 (G g)=true) {base:Nat} {s s':St} {a:Act} {g:GA} (h:FR lo F G c s a) (hf:dm base s g=some s'):
 ∃ d:Ctx,d.w=c.w/\FR lo F G d s' a/\cK base c d:=by
 cases g with
 | sh t=>
  simp only [dm] at hf;split at hf
  case h_2=>injection hf with hf;subst hf;exact ⟨c,rfl,h,cK.refl _ _⟩
  rename_i id ext off len nB;split at hf
  case h_2=>injection hf with hf;subst hf;exact ⟨c,rfl,h,cK.refl _ _⟩
  rename_i sz x l hl;obtain ⟨nl,hid⟩:=bB hl;have hm:mark Fl.sh s.H id=s.H.set id (.live nl.sh sz (x::l)):=by simp [mark,hid]
  injection hf with hf;subst hf
  rw [<-h.hH] at hid;obtain ⟨d,d1,d2,d3⟩:=x6 h.sr hid (fl:=nl.sh) (by cases nl<;>simp [Fl.sh]) (fun q=> .inl (by cases nl<;>simp [Fl.sh,Fl.old] at q ⊢)) (fun q=>by cases nl<;>simp [Fl.sh,Fl.CC] at q ⊢);exact ⟨d,d1,FR.hY hG h d3 (by rw [d2,hm,h.hH]) rfl,d3.2.2 base⟩
 | res t=>
  simp only [dm] at hf;split at hf
  case h_2=>injection hf with hf;subst hf;exact ⟨c,rfl,h,cK.refl _ _⟩
  rename_i id ext off len nB;split at hf
  case isFalse=>injection hf with hf;subst hf;exact ⟨c,rfl,h,cK.refl _ _⟩
  rename_i hno;injection hf with hf;subst hf
  cases hid:s.H[id]? with
  | none=>
   have hm:mark Fl.res s.H id=s.H:=by simp [mark,hid]
   exact ⟨c,rfl,⟨h.sr,h.tr,by rw [h.hH,hm],h.df,h.gl⟩,cK.refl _ _⟩
  | some o=>
  cases o with
  | dead=>
   have hm:mark Fl.res s.H id=s.H:=by simp [mark,hid]
   exact ⟨c,rfl,⟨h.sr,h.tr,by rw [h.hH,hm],h.df,h.gl⟩,cK.refl _ _⟩
  | ew=>
   have hm:mark Fl.res s.H id=s.H:=by simp [mark,hid]
   exact ⟨c,rfl,⟨h.sr,h.tr,by rw [h.hH,hm],h.df,h.gl⟩,cK.refl _ _⟩
  | mp _=>
   have hm:mark Fl.res s.H id=s.H:=by simp [mark,hid]
   exact ⟨c,rfl,⟨h.sr,h.tr,by rw [h.hH,hm],h.df,h.gl⟩,cK.refl _ _⟩
  | it _ _=>
   have hm:mark Fl.res s.H id=s.H:=by simp [mark,hid]
   exact ⟨c,rfl,⟨h.sr,h.tr,by rw [h.hH,hm],h.df,h.gl⟩,cK.refl _ _⟩
  | lp _ _ _ _ _=>
   have hm:mark Fl.res s.H id=s.H:=by simp [mark,hid]
   exact ⟨c,rfl,⟨h.sr,h.tr,by rw [h.hH,hm],h.df,h.gl⟩,cK.refl _ _⟩
  | live nl sz es=>
   have hm:mark Fl.res s.H id=s.H.set id (.live nl.res sz es):=by simp [mark,hid]
   rw [<-h.hH] at hid hno;obtain ⟨d,d1,d2,d3⟩:=x6 h.sr hid (fl:=nl.res) (by cases nl<;>simp [Fl.res])
    (fun _=> .inr fun j bL br bt hlt hs=>z3 hno (i:=j - (id+1)) (by rw [List.getElem?_drop];rw [show id+1+(j - (id+1))=j by omega];exact hs))
    (fun q=>by cases nl<;>simp [Fl.res,Fl.CC] at q ⊢)
   exact ⟨d,d1,FR.hY hG h d3 (by rw [d2,hm,h.hH]) rfl,d3.2.2 base⟩
 | wk l=>
  simp only [dm,za2] at hf;subst hf;obtain ⟨d,d1,d2,d3⟩:=z0 hG l h;exact ⟨d,d1,d2,d3 base⟩
 | kill l=>
  simp only [dm,za2] at hf;subst hf;exact ⟨c,rfl,⟨h.sr,Dy l h.tr,h.hH,h.df,h.gl⟩,cK.refl _ _⟩
 | ku n=>
  simp only [dm] at hf;split at hf
  case isFalse=>injection hf with hf;subst hf;exact ⟨c,rfl,h,cK.refl _ _⟩
  rename_i hc;simp only [za0] at hc;injection hf with hf;subst hf
  obtain ⟨d,d1,d2,d3,d4,d5⟩:=ET h.sr (base+n) (by rw [h.hH];exact hc.2.2);refine ⟨d,d1,⟨d3,⟨h.tr.1,fun i hi hj=>d4 _ _ (cJ hc.2.1 i hi) (h.tr.2 i hi hj)⟩,by rw [d2,h.hH],h.df.oQ h.sr (d5 0 (zaO _)),h.gl.oQ hG (d5 0 (zaO _))⟩,d5 base (by omega)⟩
 | uc t=>
  simp only [dm] at hf;split at hf
  ·rename_i s1 hs1;injection hf with hf;subst hf
   obtain ⟨d,d1,d2,d3,_⟩:=tB hG h hs1;exact ⟨d,d1,d2,d3 base⟩
  ·injection hf with hf;subst hf;exact ⟨c,rfl,h,cK.refl _ _⟩
 | prom t sz=>
  simp only [dm] at hf;split at hf
  case h_2=>injection hf with hf;subst hf;exact ⟨c,rfl,h,cK.refl _ _⟩
  rename_i nB;injection hf with hf;subst hf
  obtain ⟨Fw,hte⟩:=getD_some nB (by simp);obtain ⟨d,d1,d2,d3,d4,d5,d6,d7⟩:=z4 (G:=G) h.sr sz;refine ⟨d,d1,⟨d3,TR.set (h.tr.hY d4) t (fun hj=>?_),by rw [d2,h.hH],h.df.oQ h.sr (d5 0),d7 h.gl⟩,d5 base⟩;have hv:=h.tr.2 t Fw hj;rw [hte] at hv;generalize a.tmps[t]=tv at hv ⊢
  cases hv;rw [<-h.hH];exact d6
 | pz t off sz=>
  simp only [dm] at hf;split at hf
  case h_2=>injection hf with hf;subst hf;exact ⟨c,rfl,h,cK.refl _ _⟩
  rename_i id ext e o nB;split at hf
  case h_2=>injection hf with hf;subst hf;exact ⟨c,rfl,h,cK.refl _ _⟩
  rename_i eM;split at hf
  case h_2=>simp at hf
  rename_i H2 hst;injection hf with hf;subst hf
  obtain ⟨d,d1,d2,d3,d4,d5,d6,d7⟩:=z4 (G:=G) h.sr sz;rw [<-h.hH] at eM hst;unfold loadAt at eM;simp only at eM;split at eM
  case h_2=>simp at eM
  rename_i br es hl;obtain ⟨nl,hid⟩:=bB hl;split at eM
  case isFalse=>simp at eM
  rename_i eU;split at eM
  case h_2=>simp at eM
  rename_i cs hcs;obtain ⟨he,rfl⟩:=zab.1 hcs;simp only [part,za9,if_false] at eM;obtain ⟨hoff,ic⟩:=zab.1 eM;have b8:=bn hid;have di:d.H[id]?=some (.live nl br es):=by rw [d2,zai b8];exact hid
  have hbk:¬(nl= .nil/\es=[]):=by rintro ⟨_,rfl⟩;simp at he
  obtain ⟨cells,elem,b1,b2,b3,b4,b5⟩:=d3.hr.back id nl br es di hbk;have Vj:H2=(c.H++[Obj.live .nil sz []]).set id (Obj.live nl br (es.set e (putAt es[e] (o+off) [.own c.H.length 0 0 0])))/\nl.free=true:=by
   unfold storeAt at hst;simp only at hst;have zm:aC (c.H++[Obj.live .nil sz []]) id=some (br,es):=by rw [<-d2];simp [aC,di]
   rw [zm] at hst;simp only at hst;split at hst
   case isFalse=>simp at hst
   rename_i Qp;rw [hcs] at hst;simp only [za2] at hst
   refine ⟨?_,by have hn2:cy (c.H++[Obj.live .nil sz []]) id=nl:=by rw [<-d2];simp [cy,di]
                 rw [hn2] at Qp;exact Qp.2.2.2.2⟩
   rw [<-hst];have hn2:cy (c.H++[Obj.live .nil sz []]) id=nl:=by rw [<-d2];simp [cy,di]
   rw [hn2];rfl
  obtain ⟨zo,hfree⟩:=Vj;obtain ⟨q1,q2⟩:=b5 e he;have hput:∀ j (hj:j < (putAt es[e] (o+off) [AV.own c.H.length 0 0 0]).length),(putAt es[e] (o+off) [AV.own c.H.length 0 0 0])[j]=if j=o+off then .own c.H.length 0 0 0 else es[e][j]'(by rw [b9] at hj;exact hj):=by
   intro j hj;rw [lN _ _ _ _ hj (by simp;omega)];by_cases Jy:j=o+off
   ·subst Jy;rw [dif_pos (by simp),if_pos rfl];simp
   ·rw [dif_neg (by simp;omega),if_neg Jy]
  obtain ⟨dd,e1,e2,e3,e4,e5,_,_⟩:=o7 d3 id (d.ι id) (d.K id) nl br (es.set e (putAt es[e] (o+off) [.own c.H.length 0 0 0])) cells elem d.w H2
   (by rw [zo,d2];simp) (by rw [zo,zaG (by simp;omega)]) (fun j hj=>by left;rw [zo,za6 (fun q=>hj q.symm),d2]) (by rw [di];simp) (wg di)
   (fun bL CD bt h0=>by
    rw [di] at h0;injection h0 with h0;injection h0 with r1 r2 r3
    subst r1;subst r2;subst r3;exact ⟨rfl,rfl,by simp,fun _=>⟨hbk,rfl,rfl⟩⟩)
   (by rintro ⟨r1,r2⟩;have:=congrArg List.length r2;simp at this;exact hbk ⟨r1,this⟩)
   (cZ.refl _) (za7 _) (fun _ _ _=>rfl) b1 (.inr ⟨id,nl,br,es,di,hbk,rfl⟩)
   (fun j bL CD o6 hj hs0 kn Qq=>(alone d3 di hbk hfree hj hs0 kn Qq).elim) b2 (by simpa using b3) (by
    intro i hi;simp at hi;by_cases Tp:e=i
    ·subst Tp;simp only [List.getElem_set_self];refine ⟨by rw [b9];exact q1,fun j hj=>?_⟩;have hj':j < es[e].length:=by rw [b9] at hj;exact hj
     obtain ⟨u,hu,hv⟩:=q2 j hj';refine ⟨u,hu,?_⟩;rw [hput j hj];by_cases Jy:j=o+off
     ·rw [if_pos Jy];subst Jy;rw [ic] at hv
      cases hv;exact d6
     ·rw [if_neg Jy];exact hv
    ·have hg:(es.set e (putAt es[e] (o+off) [AV.own c.H.length 0 0 0]))[i]'(by simp;exact hi)=es[i]:=by rw [zbw Tp]
     obtain ⟨g1,g2⟩:=b5 i hi;refine ⟨by rw [hg];exact g1,fun j hj=>?_⟩;have hj2:j < es[i].length:=by rw [hg] at hj;exact hj
     obtain ⟨u,hu,hv⟩:=g2 j hj2;refine ⟨u,hu,?_⟩;have:(es.set e (putAt es[e] (o+off) [AV.own c.H.length 0 0 0]))[i][j]'hj=es[i][j]:=by simp only [hg]
     rw [this];exact hv)
  refine ⟨dd,by rw [e1,d1],⟨e3,(h.tr.hY d4).hY e4,by rw [e2],h.df.oQ h.sr ((d5 base).trans (e5 base)),fun g=>e4 _ _ (d7 h.gl g)⟩,(d5 base).trans (e5 base)⟩
 | nq t=>
  simp only [dm] at hf;split at hf
  ·rename_i s1 hs1;injection hf with hf;subst hf
   obtain ⟨d,d1,d2,d3⟩:=GF hG h hs1;exact ⟨d,d1,d2,d3 base⟩
  ·injection hf with hf;subst hf;exact ⟨c,rfl,h,cK.refl _ _⟩
 | yX t off=>
  simp only [dm] at hf;split at hf
  case h_2=>injection hf with hf;subst hf;exact ⟨c,rfl,h,cK.refl _ _⟩
  rename_i id ext e o nB;split at hf
  case h_2=>injection hf with hf;subst hf;exact ⟨c,rfl,h,cK.refl _ _⟩
  rename_i j ext' off' len' eM;split at hf
  ·simp at hf
  rename_i hji;split at hf
  case h_2=>injection hf with hf;subst hf;exact ⟨c,rfl,h,cK.refl _ _⟩
  rename_i r H1 hfz;split at hf
  case h_2=>simp at hf
  rename_i H2 hst;injection hf with hf;subst hf
  have ae5:=eM;rw [<-h.hH] at eM;unfold loadAt at eM;simp only at eM;split at eM
  case h_2=>simp at eM
  rename_i br es hl;obtain ⟨nl,hid⟩:=bB hl;split at eM
  case isFalse=>simp at eM
  rename_i eU;split at eM
  case h_2=>simp at eM
  rename_i cs hcs;obtain ⟨he,rfl⟩:=zab.1 hcs;simp only [part,za9,if_false] at eM;obtain ⟨hoff,hcell⟩:=zab.1 eM;have b8:=bn hid;have hbk:¬(nl= .nil/\es=[]):=by rintro ⟨_,rfl⟩;simp at he
  obtain ⟨cells,elem,b1,b2,b3,b4,b5⟩:=h.sr.hr.back id nl br es hid hbk;obtain ⟨u,hu,huv⟩:=(b5 e he).2 (o+off) hoff;rw [hcell] at huv;have adq:FR lo F G c ⟨[.own j ext' off' len'],s.H⟩ { a with tmps:=#[u] }:=⟨h.sr,⟨rfl,fun i hi hj=>by
   have:i=0:=by simp at hi;exact hi
   subst this;exact huv⟩,h.hH,h.df,h.gl⟩
  obtain ⟨d,d1,d2,d3,d4⟩:=tB hG adq hfz;have hru:V d r u:=d2.tr.2 0 (by simp) (by simp);obtain ⟨Hj,hrc⟩:=RM hfz;have di:d.H[id]?=some (.live nl br es):=by
   rw [d2.hH,<-hid,h.hH];rw [show (⟨[r],H1⟩:St).H=H1 from rfl,Hj,za6 hji]
  obtain ⟨MM,aaT,c1,c2,c3,c4,c5⟩:=d2.sr.hr.back id nl br es di hbk;have Qp:MM=cells:=by
   rw [d1,d4,b1] at c1;injection c1 with c1;injection c1 with c1;exact c1.symm
  subst Qp;have Vj:H2=d.H.set id (Obj.live nl br (es.set e (putAt es[e] (o+off) [r])))/\nl.free=true:=by
   unfold storeAt at hst;simp only at hst;have zm:aC H1 id=some (br,es):=by rw [show H1=d.H from d2.hH.symm];simp [aC,di]
   rw [zm] at hst;simp only at hst;split at hst
   case isFalse=>simp at hst
   rename_i Qp;rw [hcs] at hst;simp only [za2] at hst;have hn2:cy H1 id=nl:=by rw [show H1=d.H from d2.hH.symm];simp [cy,di]
   rw [hn2] at hst Qp;rw [hrc] at hst;exact ⟨by rw [<-hst,show H1=d.H from d2.hH.symm],Qp.2.2.2.2⟩
  obtain ⟨zo,hfree⟩:=Vj;have adr:id < d.H.length:=bn di;have hput:∀ q (hq:q < (putAt es[e] (o+off) [r]).length),(putAt es[e] (o+off) [r])[q]=if q=o+off then r else es[e][q]'(by rw [b9] at hq;exact hq):=by
   intro q hq;rw [lN _ _ _ _ hq (by simp;omega)];by_cases Jy:q=o+off
   ·subst Jy;rw [dif_pos (by simp),if_pos rfl];simp
   ·rw [dif_neg (by simp;omega),if_neg Jy]
  obtain ⟨dd,e1,e2,e3,e4,e5,_,_⟩:=o7 d2.sr id (d.ι id) (d.K id) nl br (es.set e (putAt es[e] (o+off) [r])) MM aaT d.w H2
   (by rw [zo];simp) (by rw [zo,zaG adr]) (fun q hq=>by left;rw [zo,za6 (fun z=>hq z.symm)]) (by rw [di];simp) (wg di)
   (fun bL CD bt h0=>by
    rw [di] at h0;injection h0 with h0;injection h0 with r1 r2 r3
    subst r1;subst r2;subst r3;exact ⟨rfl,rfl,by simp,fun _=>⟨hbk,rfl,rfl⟩⟩)
   (by rintro ⟨r1,r2⟩;have:=congrArg List.length r2;simp at this;exact hbk ⟨r1,this⟩)
   (cZ.refl _) (za7 _) (fun _ _ _=>rfl) c1 (.inr ⟨id,nl,br,es,di,hbk,rfl⟩)
   (fun q bL CD o6 hj hs0 kn Qq=>(alone d2.sr di hbk hfree hj hs0 kn Qq).elim) c2 (by simpa using c3) (by
    intro i hi;simp at hi;by_cases Tp:e=i
    ·subst Tp;simp only [List.getElem_set_self];refine ⟨by rw [b9];exact (c5 e he).1,fun q hq=>?_⟩;have To:q < es[e].length:=by rw [b9] at hq;exact hq
     obtain ⟨u2,Fx,hv⟩:=(c5 e he).2 q To;refine ⟨u2,Fx,?_⟩;rw [hput q hq];by_cases Jy:q=o+off
     ·rw [if_pos Jy];subst Jy;rw [hu] at Fx;injection Fx with Fx
      subst Fx;exact hru
     ·rw [if_neg Jy];exact hv
    ·have hg:(es.set e (putAt es[e] (o+off) [r]))[i]'(by simp;exact hi)=es[i]:=by rw [zbw Tp]
     obtain ⟨g1,g2⟩:=c5 i hi;refine ⟨by rw [hg];exact g1,fun q hq=>?_⟩;have hj2:q < es[i].length:=by rw [hg] at hq;exact hq
     obtain ⟨u2,Fx,hv⟩:=g2 q hj2;refine ⟨u2,Fx,?_⟩;have:(es.set e (putAt es[e] (o+off) [r]))[i][q]'hq=es[i][q]:=by simp only [hg]
     rw [this];exact hv)
  refine ⟨dd,by rw [e1,d1],⟨e3,TR.hY (c:=d) ⟨h.tr.1,fun i hi hj=>(d3 c.H.length).vals _ _ ((h.tr.2 i hi hj).bD) (h.tr.2 i hi hj)⟩ e4,by rw [e2],(h.df.oQ h.sr (d3 base)).oQ d2.sr (e5 base),fun g=>e4 _ _ (d2.gl g)⟩,(d3 base).trans (e5 base)⟩
 | cut t=>
  simp only [dm] at hf;split at hf
  case h_2=>simp at hf
  rename_i id ext len nB;split at hf
  case h_2=>simp at hf
  rename_i sz es hid;split at hf
  case isFalse=>simp at hf
  rename_i hc;simp only [za0,Nat.ble_eq] at hc;obtain ⟨⟨⟨⟨hb,nA⟩,eU,hle⟩,hbt,Yz⟩,hbe⟩:=hc;replace nA:=za3 nA;replace eU:=za3 eU;injection hf with hf;subst hf
  obtain ⟨Fw,hte⟩:=getD_some nB (by simp);rw [<-h.hH] at hid nA Yz;exact JU hG h hb nA hid eU hle Fw hte hbt Yz hbe
theorem jl (hG:∀ g,AV.aR 0 (G g)=true) {base:Nat}:∀ (gs:List GA) {c:Ctx} {s s':St} {a:Act},FR lo F G c s a->iX base gs s=some s'->
 ∃ d:Ctx,d.w=c.w/\FR lo F G d s' a/\cK base c d
 | [],c,s,s',a,h,hf=>by simp [iX] at hf;subst hf;exact ⟨c,rfl,h,cK.refl _ _⟩
 | g::gs,c,s,s',a,h,hf=>by
  simp only [iX] at hf;split at hf
  case h_2=>simp at hf
  rename_i s1 h1;obtain ⟨d,d1,d2,d3⟩:=Cj hG h h1;obtain ⟨e,e1,e2,e3⟩:=jl hG gs d2 hf;exact ⟨e,by rw [e1,d1],e2,d3.trans e3⟩
end
end Go.Am
end
section
namespace Go.Am
section
variable {c d:Ctx}
structure CS (c d:Ctx):Prop where
 hw:d.w=c.w
 hO:∀ b,d.O b->c.O b
 hown:∀ b,bz c.H c.ι b->¬ d.O b
theorem CS.free (l:CS c d) {x:AV} {v:Value} (hb:x.bD 0=true) (hx:V c x v):V d x v:=
 V.monoB 0 (fun b hb _=>⟨by rw [l.hw],fun hd=>hb (l.hO b hd)⟩) (fun _ _ _ _ _ h=>by omega) (fun _ _ _ _ _ h=>by omega) (fun _ _ _ _ _ _ h=>by omega) (fun _ _ h=>by omega) hx hb
theorem pY {f:AV->Option AV} (hf:∀ x y v,V c x v->f x=some y->V d y v/\y.bD 0=true):∀ (xs ys:List AV) (vs:Nat->Value),(∀ i (hi:i < xs.length),V c xs[i] (vs i))->ey f xs=some ys->
 ys.length=xs.length/\∀ i (hi:i < ys.length),V d ys[i] (vs i)/\ys[i].bD 0=true
 | [],ys,vs,_,h=>by simp [ey] at h;subst h;simp
 | x::xs,ys,vs,hv,h=>by
  simp only [ey] at h;split at h
  case h_2=>simp at h
  rename_i y r h1 h2;injection h with h;subst h
  have e1:=hf _ _ _ (hv 0 (by simp)) h1;obtain ⟨e2,e3⟩:=pY hf xs r (fun i=>vs (i+1)) (fun i hi=>hv (i+1) (Nat.succ_lt_succ hi)) h2;refine ⟨by simp [e2],fun i hi=>?_⟩
  cases i with
  | zero=>exact e1
  | succ i=>exact e3 i (zbj hi)
theorem BM {f:AV->Option AV} (hf:∀ x y v,V c x v->f x=some y->V d y v/\y.bD 0=true):∀ (xs ys:List (List AV)) (vs:Nat->Nat->Value),(∀ i j (hi:i < xs.length) (hj:j < xs[i].length),V c xs[i][j] (vs i j))->gB f xs=some ys->
 ys.length=xs.length/\∀ i (hi:i < ys.length) (hi':i < xs.length),ys[i].length=xs[i].length/\∀ j (hj:j < ys[i].length),V d ys[i][j] (vs i j)/\ys[i][j].bD 0=true
 | [],ys,vs,_,h=>by simp [gB] at h;subst h;simp
 | x::xs,ys,vs,hv,h=>by
  simp only [gB] at h;split at h
  case h_2=>simp at h
  rename_i y r h1 h2;injection h with h;subst h
  obtain ⟨e1,UA⟩:=pY hf x y (vs 0) (fun j hj=>hv 0 j (by simp) hj) h1;obtain ⟨e2,e3⟩:=BM hf xs r (fun i=>vs (i+1)) (fun i j hi hj=>hv (i+1) j (Nat.succ_lt_succ hi) hj) h2;refine ⟨by simp [e2],fun i hi hi'=>?_⟩
  cases i with
  | zero=>exact ⟨e1,UA⟩
  | succ i=>exact e3 i (zbj hi) (zbj hi')
theorem BN {f:AV->Option AV} (hf:∀ x,x.bD 0=true->f x=some x):∀ (xs:List AV),AV.aR 0 xs=true->ey f xs=some xs
 | [],_=>rfl
 | x::xs,h=>by
  simp only [AV.aR,za0] at h;simp only [ey,hf x h.1,BN hf xs h.2]
theorem rK {f:AV->Option AV} (hf:∀ x,x.bD 0=true->f x=some x):∀ (xs:List (List AV)),AV.bO 0 xs=true->gB f xs=some xs
 | [],_=>rfl
 | x::xs,h=>by
  simp only [AV.bO,za0] at h;simp only [gB,BN hf x h.1,rK hf xs h.2]
theorem aaU (n:Nat) (H:List Obj) (x:AV) (h:x.bD 0=true):pk n H x=some x:=by
 cases n<;>simp [pk,AV.eN,h]
theorem aaV (hr:HR c) (l:CS c d) {p:AV->Option AV} (hp:∀ x y v,V c x v->p x=some y->V d y v/\y.bD 0=true) (x y:AV) (v:Value) (hx:V c x v) (h:Qh p c.H x=some y):V d y v/\y.bD 0=true:=by
 unfold Qh at h;split at h
 ·rename_i id ext e o;split at h
  case h_2=>simp at h
  rename_i sz es hl;obtain ⟨nl,hid⟩:=bB hl;split at h
  case isFalse=>simp at h
  rename_i eU;split at h
  case h_2=>simp at h
  rename_i cs hcs;obtain ⟨he,rfl⟩:=zab.1 hcs;split at h
  case h_2=>simp at h
  rename_i r hr';injection h with h;subst h
  cases hx with
  | aJ _ _ _ _ _ ha=>
   obtain ⟨hlt',a,rfl,hsp,ha⟩:=ha;have:=(ha _ _ _ hid).2 eU;subst this;have hbk:¬(nl= .nil/\es=[]):=by rintro ⟨_,rfl⟩;simp at he
   obtain ⟨vs,_,v3,v4⟩:=j6 hr hid he;obtain ⟨e1,e2⟩:=pY (d:=d) hp _ r (fun j=>vs (o+j)) (fun j hj=>by
    simp only [zas] at hj ⊢;exact v4 (o+j) (by simp at hj;omega)) hr'
   refine ⟨.bR _ _ (fun j=>vs (o+j)) (fun j hj=>(e2 j hj).2) (fun _=>⟨rfl,l.hown _ ⟨id,nl,sz,es,hid,hbk,rfl⟩⟩) (fun j hj=>?_) (fun j hj=>(e2 j hj).1),by simp only [AV.bD]⟩;have:=v3 (o+j) (by simp at e1;omega);rw [l.hw,<-this];congr 2;simp only;omega
 ·exact hp _ _ _ hx h
theorem Zz (hr:HR c) (l:CS c d):∀ (n:Nat) (x y:AV) (v:Value),V c x v->pk n c.H x=some y->V d y v/\y.bD 0=true:=by
 intro n;induction n with
 | zero=>
  intro x y v hx h;simp only [pk] at h;split at h
  ·rename_i hf;injection h with h;subst h;exact ⟨l.free hf hx,hf⟩
  ·simp at h
 | succ n ih=>
  intro x y v hx h;simp only [pk] at h;split at h
  ·rename_i hf;injection h with h;subst h;exact ⟨l.free hf hx,hf⟩
  rename_i hnf;clear hnf;split at h
  ·rename_i id ext off len;split at h
   case h_2=>simp at h
   rename_i sz es hl;obtain ⟨nl,hid⟩:=bB hl;split at h
   case isFalse=>simp at h
   rename_i eU;split at h
   case h_2=>simp at h
   rename_i r hr';injection h with h
   have qC:cy c.H id=nl:=by simp [cy,hid]
   rw [qC] at h
   cases hx with
   | own _ _ _ _ _ how=>
    obtain ⟨_,_,how⟩:=how;obtain ⟨hle,how⟩:=how _ _ _ hid;obtain ⟨X1,how⟩:=how eU;rcases how with ⟨q1,q2,rfl⟩ | ⟨hbk,cap,rfl,hcap⟩
    ·subst q2;simp only [List.drop_nil,List.take_nil,gB,za2] at hr';subst hr';simp only [sF] at h;subst h;exact ⟨.CB,by simp [AV.bD,AV.bO]⟩
    ·obtain ⟨cells,elem,g1,g2,g3,g4,g5⟩:=hr.back id nl sz es hid hbk;have hro:sF nl es r= .ro r:=rfl;rw [hro] at h;subst h;have hlen:((es.drop off).take len).length=len:=by simp;omega
     obtain ⟨e1,e2⟩:=BM (d:=d) ih _ r (fun i j=>(cells[(off+i)*sz+j]?).getD undef) (fun i j hi hj=>by
      simp only [zar,zas] at hj ⊢;obtain ⟨u,hu,hv⟩:=(g5 (off+i) (by omega)).2 j hj;rw [hu];exact hv) hr'
     have hrl:r.length=len:=by omega
     refine ⟨?_,by simp only [AV.bD]⟩;conv=>rhs;rw [<-hrl]
     have hsz:∀ i (hi:i < r.length),r[i].length=sz:=by
      intro i hi;rw [(e2 i hi (by omega)).1];simp only [zar,zas];exact (g5 _ _).1
     refine .ro _ _ cap sz (fun i j=>(cells[(off+i)*sz+j]?).getD undef) (fun i j hi hj=>((e2 i hi (by omega)).2 j hj).2) (by omega) (fun _ _=>⟨rfl,l.hown _ ⟨id,nl,sz,es,hid,hbk,rfl⟩⟩) hsz (fun i j hi hj=>?_) (fun i j hi hj=>((e2 i hi (by omega)).2 j hj).1);have hj':j < es[off+i].length:=by rw [(g5 (off+i) (by omega)).1];rw [hsz i hi] at hj;exact hj
     obtain ⟨u,hu,_⟩:=(g5 (off+i) (by omega)).2 j hj';have e3:off*sz+i*sz=(off+i)*sz:=by rw [zaC]
     simp only [l.hw,World.cell?,g1,e3,hu];simp
  ·rename_i id ext e o sz len;split at h
   case h_2=>simp at h
   rename_i la hla;split at h
   case h_2=>simp at h
   rename_i r hr';injection h with h;subst h
   unfold fJ at hla;split at hla
   case h_2=>simp at hla
   rename_i SZ es hl';obtain ⟨nl,hid⟩:=bB hl';split at hla
   case isFalse=>simp at hla
   rename_i eU;split at hla
   case h_2=>simp at hla
   rename_i cs hcs;obtain ⟨he,rfl⟩:=zab.1 hcs;split at hla
   case isFalse=>simp at hla
   rename_i hle;injection hla with hla
   have iT:=iF sz len (es[e].drop o)
   cases hx with
   | arr _ _ _ _ _ _ _ ha=>
    obtain ⟨hlt',a,⟨cap,rfl,hcap⟩,hsp,ha⟩:=ha;have:=(ha _ _ _ hid).2 eU;subst this;have hbk:¬(nl= .nil/\es=[]):=by rintro ⟨_,rfl⟩;simp at he
    obtain ⟨vs,_,v3,v4⟩:=j6 hr hid he;have hmul:∀ i,i < len->i*sz+sz<=len*sz:=by
     intro i hi;have:=zag sz (show i+1<=len by omega);rw [zaC,zb2] at this;exact this
    have hsz:∀ i (hi:i < la.length),la[i].length=sz:=by
     intro i hi;subst hla;rw [fj];have:=hmul i (by rw [iT] at hi;exact hi);simp;omega
    have Tq:la.length=len:=by rw [<-hla];exact iT
    have hge:∀ i j (hi:i < la.length) (hj:j < la[i].length),∃ h2:o+(i*sz+j) < es[e].length,la[i][j]=es[e][o+(i*sz+j)]:=by
     intro i j hi hj;have hj':j < sz:=by rw [hsz i hi] at hj;exact hj
     have:=hmul i (by omega);refine ⟨by omega,?_⟩;subst hla;simp only [fj,zar,zas]
    obtain ⟨e1,e2⟩:=BM (d:=d) ih _ r (fun i j=>vs (o+(i*sz+j))) (fun i j hi hj=>by
     obtain ⟨h2,h3⟩:=hge i j hi hj;rw [h3];exact v4 _ h2) hr'
    have hrl:r.length=len:=by omega
    refine ⟨?_,by simp only [AV.bD]⟩;conv=>rhs;rw [<-hrl]
    refine .ro _ _ cap sz (fun i j=>vs (o+(i*sz+j))) (fun i j hi hj=>((e2 i hi (by omega)).2 j hj).2) (by omega) (fun _ _=>⟨rfl,l.hown _ ⟨id,nl,SZ,es,hid,hbk,rfl⟩⟩) (fun i hi=>by rw [(e2 i hi (by omega)).1];exact hsz i (by omega))
     (fun i j hi hj=>?_) (fun i j hi hj=>((e2 i hi (by omega)).2 j hj).1)
    have hj':j < la[i].length:=by rw [<-(e2 i hi (by omega)).1];exact hj
    obtain ⟨h2,_⟩:=hge i j (by omega) hj';have:=v3 (o+(i*sz+j)) h2;rw [l.hw,<-this];congr 2;simp only;omega
  ·rename_i cs;split at h
   case h_2=>simp at h
   rename_i r hr';injection h with h;subst h
   cases hx with
   | agg _ vs hs hv=>
    obtain ⟨e1,e2⟩:=pY (d:=d) ih cs r (fun i=>vs[i]?.getD undef) (fun i hi=>by
     have hi':i < vs.size:=by omega
     simp only [zam hi',zaz];exact hv i hi hi') hr'
    refine ⟨.agg _ _ (by omega) fun i hi hj=>?_,by simp only [AV.bD];exact ji fun i hi=>(e2 i hi).2⟩;have:=(e2 i hi).1;simpa only [zam hj,zaz] using this
  ·rename_i cs;split at h
   case h_2=>simp at h
   rename_i r hr';injection h with h;subst h
   cases hx with
   | aY _ vs hs hv=>
    obtain ⟨e1,e2⟩:=pY (d:=d) ih cs r (fun i=>vs[i]?.getD undef) (fun i hi=>by
     have hi':i < vs.size:=by omega
     simp only [zam hi',zaz];exact hv i hi hi') hr'
    refine ⟨.aY _ _ (by omega) fun i hi hj=>?_,by simp only [AV.bD];exact ji fun i hi=>(e2 i hi).2⟩;have:=(e2 i hi).1;simpa only [zam hj,zaz] using this
  ·rename_i f cap;split at h
   case h_2=>simp at h
   rename_i r hr';injection h with h;subst h
   cases hx with
   | fn _ _ vs hs hv=>
    obtain ⟨e1,e2⟩:=pY (d:=d) (aaV hr l ih) cap r (fun i=>vs[i]?.getD undef) (fun i hi=>by
     have hi':i < vs.size:=by omega
     simp only [zam hi',zaz];exact hv i hi hi') hr'
    refine ⟨.fn _ _ _ (by omega) fun i hi hj=>?_,by simp only [AV.bD];exact ji fun i hi=>(e2 i hi).2⟩;have:=(e2 i hi).1;simpa only [zam hj,zaz] using this
  ·simp at h
theorem Ix (hr:HR c) (l:CS c d) (xs ys:List AV) (vs:List Value) (hl:vs.length=xs.length) (hv:∀ i (hi:i < xs.length) (hj:i < vs.length),V c xs[i] vs[i]) (h:snaps c.H xs=some ys):
 ys.length=xs.length/\(∀ i (hi:i < ys.length) (hj:i < vs.length),V d ys[i] vs[i])/\AV.aR 0 ys=true:=by
 obtain ⟨e1,e2⟩:=pY (d:=d) (Zz hr l 6) xs ys (fun i=>vs[i]?.getD undef) (fun i hi=>by
  have hi':i < vs.length:=by omega
  simp only [za1 hi',zaz];exact hv i hi hi') h
 refine ⟨e1,fun i hi hj=>?_,ji fun i hi=>(e2 i hi).2⟩;have:=(e2 i hi).1;simpa only [za1 hj,zaz] using this
theorem DB (H:List Obj) (xs ys:List AV) (hb:AV.aR 0 xs=true) (h:snaps H xs=some ys):ys=xs:=by
 unfold snaps at h;rw [BN (fun x hx=>aaU 6 H x hx) xs hb] at h;injection h with h;exact h.symm
theorem Wx (hr:HR c) (l:CS c d) {x y:AV} {v:Value} (hx:V c x v) (h:pack c.H x=some y):V d y v/\y.bD 0=true:=Zz hr l 6 x y v hx h
theorem MN {x:AV} {v:Value} (h:V c x v):x.flat=true->V d x v:=by
 have get:∀ (l:List AV),AV.jF l=true->∀ i (hi:i < l.length),l[i].flat=true:=by
  intro l;induction l with
  | nil=>intro _ i hi;simp at hi
  | cons x l ih=>
   intro h i hi;simp only [AV.jF,za0] at h
   cases i with
   | zero=>exact h.1
   | succ i=>exact ih h.2 i (zbj hi)
 induction h with
 | any v=>intro _;exact .any v
 | bool b=>intro _;exact .bool b
 | int k n=>intro _;exact .int k n
 | str s=>intro _;exact .str s
 | gZ=>intro _;exact .gZ
 | bF=>intro _;exact .bF
 | jw=>intro _;exact .jw
 | pO=>intro _;exact .pO
 | nu=>intro _;exact .nu
 | agg cs vs hs _ ih=>intro hb;simp only [AV.flat] at hb;exact .agg cs vs hs fun i hi hj=>ih i hi hj (get cs hb i hi)
 | aY cs vs hs _ ih=>intro hb;simp only [AV.flat] at hb;exact .aY cs vs hs fun i hi hj=>ih i hi hj (get cs hb i hi)
 | _=>intro hb;simp [AV.flat] at hb
end
end Go.Am
end
