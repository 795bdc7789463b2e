/- Parts of my machine and its laws, joined: AmU AmV. No condition. -/
import Derived.Test.YtafgdbaekppjcaaGreatDoorAmT
set_option linter.unusedSectionVars false
set_option linter.unusedVariables false
set_option linter.unusedSimpArgs false
section
namespace Go.Am
section
variable {lo:Nat->Prop} {F:Fo} {c:Ctx} {G:Nat->List AV}
theorem FR.hJ {d:Ctx} {s s':St} {a:Act} (hG:∀ g,AV.aT 0 (G g)=true) (h:FR lo F G c s a) (hw:ek F c d) (hH:d.H=s'.H) (ht:s'.tmps=s.tmps):FR lo F G d s' a:=
 ⟨hw.1,by rw [ht];exact h.tr.hJ hw.2.1,hH,h.df.oO h.sr (hw.2.2 0),h.gl.oO hG (hw.2.2 0)⟩
theorem Kj {x:AV} {v:Value} (h:V c x v):V c x.HU v:=by
 unfold AV.HU;split
 ·cases h;exact .B0
 ·exact h
theorem YZ {x:AV} {v:Value} (h:V c x v):V c x.wk2 v:=by
 unfold AV.wk2;split
 ·cases h;exact .B0
 ·cases h with
  | agg cs vs hs hv=>exact .agg _ _ (by simp [hs]) fun i hi hj=>by rw [zax];exact Kj (hv i (by simpa using hi) hj)
 ·exact h
theorem adi {x:AV} {v:Value} (h:V c x v):V c x.wk v:=by
 unfold AV.wk;split
 ·cases h;exact .B0
 ·cases h with
  | agg cs vs hs hv=>exact .agg _ _ (by simp [hs]) fun i hi hj=>by rw [zax];exact Kj (hv i (by simpa using hi) hj)
 ·cases h with
  | bl cs vs hs hv=>exact .bl _ _ (by simp [hs]) fun i hi hj=>by rw [zax];exact YZ (hv i (by simpa using hi) hj)
 ·exact h
theorem r4 (h:SR F c) (id:Nat) {o:Obj} (OO:c.H[id]?=some o):
 ∃ d:Ctx,d.w=c.w/\d.H=c.H.set id o.wk/\SR F d/\(∀ x v,V c x v->V d x v)/\∀ n,cW n c d:=by
 have same:∀ o':Obj,o=o'->∃ d:Ctx,d.w=c.w/\d.H=c.H.set id o'/\SR F d/\(∀ x v,V c x v->V d x v)/\∀ n,cW n c d:=by
  rintro o' rfl;refine ⟨c,rfl,?_,h,fun _ _ hv=>hv,fun n=>cW.refl n c⟩;apply List.ext_getElem?
  intro i;rw [List.getElem?_set];by_cases hi:id=i
  ·subst hi;obtain ⟨e1,e2⟩:=zaa.1 OO;simp [e1,e2]
  ·simp [hi]
 cases o with
 | dead=>exact same _ rfl
 | iA=>exact same _ rfl
 | mp _=>exact same _ rfl
 | it _ _=>exact same _ rfl
 | lp _ _ _ _ _=>exact same _ rfl
 | live nl sz es=>
  have hid:=OO;have cv:=bL hid;let H':=c.H.set id (Obj.wk (.live nl sz es));have aP:∀ (i:Nat) bR bA bC,H'[i]?=some (.live bR bA bC)->∃ pD,c.H[i]?=some (.live bR bA pD)/\pD.length=bC.length/\
   ∀ q (h0:q < bC.length) (h1:q < pD.length),bC[q]=pD[q]\/bC[q]=pD[q].map AV.HU:=by
   intro i bR bA bC hs;by_cases hi:i=id
   ·subst hi;simp only [H',zaY cv,Obj.wk,za1,Obj.live.injEq] at hs;obtain ⟨rfl,rfl,rfl⟩:=hs;exact ⟨es,hid,by simp,fun q h0 h1=> .inr (by simp)⟩
   ·refine ⟨bC,?_,rfl,fun q _ _=> .inl rfl⟩;rw [<-hs];simp only [H'];rw [za7 (fun q=>hi q.symm)]
  have jc:∀ {a b:List (List AV)},a.length=b.length->(b=[]->a=[]):=by
   intro a b hl hb;subst hb;exact List.length_eq_zero_iff.1 hl
  have hown:∀ b,bF H' c.ι b->bF c.H c.ι b:=by
   rintro b ⟨i,bR,bA,bC,h1,h2,h3⟩;obtain ⟨pD,e1,e2,_⟩:=aP _ _ _ _ h1;exact ⟨i,bR,bA,pD,e1,fun q=>h2 ⟨q.1,jc e2.symm q.2⟩,h3⟩
  let d:Ctx:=⟨c.w,fun b=>F b\/bF H' c.ι b,c.ι,c.K,H'⟩;have ct:∀ i,Has c i->Has d i:=by
   rintro i ⟨h1,h2⟩;refine ⟨by simpa [d,H'] using h1,fun e=>?_⟩;by_cases hi:i=id
   ·subst hi;simp [d,H',cv,Obj.wk] at e
   ·refine h2 ?_;rw [<-e];simp only [d,H'];rw [za7 (fun q=>hi q.symm)]
  have hsp:∀ j o,d.H[j]?=some o->o.sp=true->c.H[j]?=some o/\d.ι j=c.ι j/\d.w.heap[c.ι j]?=c.w.heap[c.ι j]?:=by
   intro j o h1 h2;refine ⟨?_,rfl,rfl⟩;by_cases hj:j=id
   ·subst hj;simp [d,H',cv,Obj.wk] at h1;subst h1;simp [Obj.sp] at h2
   ·rw [<-h1];simp only [d,H'];rw [za7 (fun q=>hj q.symm)]
  have hV:∀ x v,V c x v->V d x v:=by
   intro x v hv;refine V.mono ?_ ?_ ?_ ?_ (fun i b hs=>hs.keep ct hsp) hv
   ·intro b hnb _;refine ⟨rfl,?_⟩;rintro (hf | ho)
    ·exact hnb ((h.hO b).2 (.inl hf))
    ·exact hnb ((h.hO b).2 (.inr (hown b ho)))
   ·rintro i e o l v ⟨g1,g2,g3⟩;refine ⟨ct i g1,g2,fun bR bA bC hs=>?_⟩;obtain ⟨pD,e1,e2,_⟩:=aP _ _ _ _ hs;obtain ⟨k1,k2⟩:=g3 bR bA pD e1;refine ⟨by omega,fun he=>?_⟩;obtain ⟨k3,k4⟩:=k2 (by omega);refine ⟨k3,?_⟩;rcases k4 with ⟨q1,q2,q3⟩ | ⟨q1,q2⟩
    ·exact .inl ⟨q1,jc e2.symm q2,q3⟩
    ·exact .inr ⟨fun q=>q1 ⟨q.1,jc e2 q.2⟩,q2⟩
   ·rintro i e o l v ⟨g1,q,g2,g3,g4⟩;refine ⟨ct i g1,q,g2,g3,fun bR bA bC hs=>?_⟩;obtain ⟨pD,e1,e2,_⟩:=aP _ _ _ _ hs;obtain ⟨k1,k2⟩:=g4 bR bA pD e1;exact ⟨by omega,fun he=>k2 (by omega)⟩
   ·rintro i e o l k v ⟨g1,q,g2,g3,g4⟩;refine ⟨ct i g1,q,g2,g3,fun bR bA bC hs=>?_⟩;obtain ⟨pD,e1,e2,_⟩:=aP _ _ _ _ hs;obtain ⟨k1,k2⟩:=g4 bR bA pD e1;exact ⟨by omega,fun he=>k2 (by omega)⟩
  have aU:∀ n,cW n c d:=fun n=>⟨za6 _,fun _ _ _ _=>rfl,fun x v _ hv=>hV x v hv,fun b ho=> .inl (hown b ho),fun hn=>by simpa [d,H'] using hn,dx.refl _,fun b hb=> .inl (cV hsp hb)⟩
  refine ⟨d,rfl,rfl,⟨⟨?_,?_⟩,fun b=>Iff.rfl,h.hF,fun b ho=>h.eX b (hown b ho),h.x.keep hsp hV⟩,hV,aU⟩
  ·intro i bR bA bC hs hbk;obtain ⟨pD,hs',e2,e3⟩:=aP _ _ _ _ hs;obtain ⟨cells,elem,g1,g2,g3,g4,g5⟩:=h.hr.back i bR bA pD hs' (fun q=>hbk ⟨q.1,jc e2.symm q.2⟩);refine ⟨cells,elem,g1,g2,by rw [<-e2];exact g3,.inr ⟨i,bR,bA,bC,hs,hbk,rfl⟩,fun q hq=>?_⟩;obtain ⟨p1,p2⟩:=g5 q (by omega);rcases e3 q hq (by omega) with e | e
   ·refine ⟨by rw [e];exact p1,fun j hj=>?_⟩;obtain ⟨u,hu,hv⟩:=p2 j (by rw [e] at hj;exact hj);exact ⟨u,hu,by simp only [e];exact hV _ _ hv⟩
   ·refine ⟨by rw [e];simpa using p1,fun j hj=>?_⟩;obtain ⟨u,hu,hv⟩:=p2 j (by rw [e] at hj;simpa using hj);exact ⟨u,hu,by simp only [e,zax];exact Kj (hV _ _ hv)⟩
  ·intro i i' _ _ _ _ _ _ h1 h2 h3 h4 he hlt;obtain ⟨_,e1,e2,_⟩:=aP _ _ _ _ h1;obtain ⟨_,e3,e4,_⟩:=aP _ _ _ _ h3;obtain ⟨k1,k2,k3,k4⟩:=h.hr.inj i i' _ _ _ _ _ _ e1 (fun q=>h2 ⟨q.1,jc e2.symm q.2⟩) e3 (fun q=>h4 ⟨q.1,jc e4.symm q.2⟩) he hlt;exact ⟨k1,k2,k3,by omega⟩
theorem IB (h:SR F c) (x:AV):∃ d:Ctx,d.w=c.w/\d.H=NR c.H x/\SR F d/\(∀ x v,V c x v->V d x v)/\∀ n,cW n c d:=by
 have no:∃ d:Ctx,d.w=c.w/\d.H=c.H/\SR F d/\(∀ x v,V c x v->V d x v)/\∀ n,cW n c d:=⟨c,rfl,rfl,h,fun _ _ hv=>hv,fun n=>cW.refl n c⟩;unfold NR;split
 ·split
  ·rename_i hid;exact r4 h _ hid
  ·exact no
 ·split
  ·rename_i hid;exact r4 h _ hid
  ·exact no
 ·exact no
theorem zO (hG:∀ g,AV.aT 0 (G g)=true) {a:Act}:∀ (l:List Nat) {c:Ctx} {s:St},FR lo F G c s a->∃ d:Ctx,d.w=c.w/\FR lo F G d (WN l s) a/\∀ n,cW n c d
 | [],c,s,h=>⟨c,rfl,h,fun n=>cW.refl n c⟩
 | t::ts,c,s,h=>by
  obtain ⟨d,d1,d2,d3,d4,d5⟩:=IB h.sr (s.tmps.getD t .any);have h2:FR lo F G d ⟨s.tmps.set t (s.tmps.getD t .any).wk,NR s.H (s.tmps.getD t .any)⟩ a:=by
   refine ⟨d3,TR.set (h.tr.hJ d4) t (fun hj=>?_),by rw [d2,h.hH],h.df.oO h.sr (d5 0),h.gl.oO hG (d5 0)⟩;have hi:t < s.tmps.length:=by have:=h.tr.1;omega
   have e:s.tmps.getD t .any=s.tmps[t]:=by simp [List.getD,hi]
   rw [e];exact adi (d4 _ _ (h.tr.2 t hi hj))
  obtain ⟨e,e1,e2,e3⟩:=zO hG ts h2;exact ⟨e,by rw [e1,d1],e2,fun n=>(d5 n).trans (e3 n)⟩
theorem xV (h:SR F c) {id:Nat} {nl fl:Fl} {sz:Nat} {es:List (List AV)} (hid:c.H[id]?=some (.live nl sz es)) (hn:nl= .nil↔fl= .nil)
 (ho:nl.old=true->fl.old=true\/∀ j bR bA bC,id < j->c.H[j]?=some (.live bR bA bC)->bR.B1=false) (hk:nl.B1=true->fl.B1=true):
 ∃ d:Ctx,d.w=c.w/\d.H=c.H.set id (.live fl sz es)/\ek F c d:=by
 obtain ⟨d,d1,d2,d3,_⟩:=xW h hid hn (fun j bR bA bC hj hs j9 he hbk=>by
  refine ⟨fun hlt=>?_,fun hlt=>?_⟩
  ·obtain ⟨k1,k2,_⟩:=h.hr.inj id j _ _ _ _ _ _ hid hbk hs j9 he.symm hlt;rcases ho k1 with q | q
   ·exact q
   ·rw [q _ _ _ _ hlt hs] at k2;simp at k2
  ·obtain ⟨k1,k2,_⟩:=h.hr.inj j id _ _ _ _ _ _ hs j9 hid hbk he hlt;exact hk k2)
 exact ⟨d,d1,d2,d3⟩
theorem zP:∀ {l:List Obj},we l=true->∀ {i:Nat} {nl:Fl} {sz:Nat} {es:List (List AV)},l[i]?=some (Obj.live nl sz es)->nl.B1=false
 | [],_,i,nl,sz,es,h=>by simp at h
 | o::r,hn,i,nl,sz,es,h=>by
  cases i with
  | zero=>
   simp at h;subst h;simp [we] at hn;exact hn.1
  | succ i=>
   simp at h;refine zP (l:=r) ?_ h
   cases o<;>simp [we] at hn
   ·exact hn.2
   all_goals exact hn
theorem IC (hG:∀ g,AV.aT 0 (G g)=true) {base:Nat} {s:St} {a:Act} (h:FR lo F G c s a) {t id ext len sz:Nat} {es:List (List AV)} (hb:base<=id) (ny:id+1=c.H.length) (hid:c.H[id]?=some (.live .norm sz es))
 (fe:ext=es.length) (hle:len<=ext) (Ey:t < s.tmps.length) (hte:s.tmps[t]= .own id ext 0 len) (hbt:AV.aT id (s.tmps.set t .any)=true) (WQ:bW id (c.H.take id)=true) (hbe:AV.bN id es=true):
 ∃ d:Ctx,d.w=c.w/\FR lo F G d ⟨s.tmps.set t (.own id len 0 len),s.H.set id (.live .norm sz (es.take len))⟩ a/\cW base c d:=by
 have cv:=bL hid;let H':=c.H.set id (.live .norm sz (es.take len));let d:Ctx:=⟨c.w,c.O,c.ι,c.K,H'⟩;have hne:∀ i,i≠id->H'[i]?=c.H[i]?:=fun i hi=>by simp only [H'];rw [za7 (fun q=>hi q.symm)]
 have wg:H'[id]?=some (.live .norm sz (es.take len)):=by simp only [H'];rw [zaY cv]
 have ct:∀ i,Has c i->Has d i:=by
  rintro i ⟨h1,h2⟩;refine ⟨by simpa [d,H'] using h1,fun e=>?_⟩;by_cases hi:i=id
  ·subst hi;rw [show d.H=H' from rfl,wg] at e;simp at e
  ·rw [show d.H=H' from rfl,hne i hi] at e;exact h2 e
 have hown:∀ b,bF H' c.ι b↔bF c.H c.ι b:=by
  intro b;constructor
  ·rintro ⟨i,nl,bA,bC,h1,h2,h3⟩;by_cases hi:i=id
   ·subst hi;exact ⟨i,.norm,sz,es,hid,by simp,h3⟩
   ·exact ⟨i,nl,bA,bC,by rw [<-hne i hi];exact h1,h2,h3⟩
  ·rintro ⟨i,nl,bA,bC,h1,h2,h3⟩;by_cases hi:i=id
   ·subst hi;exact ⟨i,.norm,sz,es.take len,wg,by simp,h3⟩
   ·exact ⟨i,nl,bA,bC,by rw [hne i hi];exact h1,h2,h3⟩
 have hsp:∀ j o,d.H[j]?=some o->o.sp=true->c.H[j]?=some o/\d.ι j=c.ι j/\d.w.heap[c.ι j]?=c.w.heap[c.ι j]?:=by
  intro j o h1 h2;refine ⟨?_,rfl,rfl⟩;by_cases hj:j=id
  ·subst hj;rw [show d.H=H' from rfl,wg] at h1;injection h1 with h1;subst h1;simp [Obj.sp] at h2
  ·rw [<-hne j hj];exact h1
 have hV:∀ x v,x.bp id=true->V c x v->V d x v:=by
  intro x v hx hv;refine V.monoB id ?_ ?_ ?_ ?_ (fun i b _ hs=>hs.keep ct hsp) hv hx
  ·intro b hnb _;exact ⟨rfl,hnb⟩
  ·rintro i e o l v hi ⟨g1,g2,g3⟩;exact ⟨ct i g1,g2,fun nl bA bC hs=>g3 nl bA bC (by rw [<-hne i (by omega)];exact hs)⟩
  ·rintro i e o l v hi ⟨g1,q,g2,g3,g4⟩;exact ⟨ct i g1,q,g2,g3,fun nl bA bC hs=>g4 nl bA bC (by rw [<-hne i (by omega)];exact hs)⟩
  ·rintro i e o l k v hi ⟨g1,q,g2,g3,g4⟩;exact ⟨ct i g1,q,g2,g3,fun nl bA bC hs=>g4 nl bA bC (by rw [<-hne i (by omega)];exact hs)⟩
 have aU:cW base c d:=⟨za6 _,fun _ _ _ _=>rfl,fun x v hx hv=>hV x v (fu hb x hx) hv,fun b ho=> .inl ((hown b).1 ho),fun hn=>by simpa [d,H'] using hn,dx.refl _,fun b hb=> .inl (cV hsp hb)⟩;have N5:SR F d:=by
  refine ⟨⟨?_,?_⟩,fun b=>?_,h.sr.hF,fun b ho=>h.sr.eX b ((hown b).1 ho),h.sr.x.Kk hsp fun i o wo h1 h2 hs=>hs.monoB (m:=id) ?_ hV⟩
  rotate_left 3
  ·have hilt:i < id:=by
    have h3:=bL h1;rw [show d.H=H' from rfl] at h3;simp only [H',zbK] at h3;have:i≠id:=by rintro rfl;rw [show d.H=H' from rfl,wg] at h1;injection h1 with h1;subst h1;simp [Obj.sp] at h2
    omega
   exact iS WQ i _ (by rw [zb5,if_pos hilt,<-hne i (by omega)];exact h1)
  ·intro i bR bA bC hs hbk;by_cases hi:i=id
   ·subst hi;rw [show d.H=H' from rfl,wg] at hs;injection hs with hs;injection hs with q1 q2 q3
    subst q1;subst q2;subst q3;obtain ⟨cells,elem,g1,g2,g3,g4,g5⟩:=h.sr.hr.back i .norm sz es hid (by simp);refine ⟨cells,elem,g1,g2,zaK (by simp [zbu];omega) g3,g4,fun q hq=>?_⟩;have WR:q < es.length:=by simp [zbu] at hq;omega
    have heq:(es.take len)[q]=es[q]:=by simp
    refine ⟨by rw [heq];exact (g5 q WR).1,fun j hj=>?_⟩;have hj':j < es[q].length:=by rw [heq] at hj;exact hj
    obtain ⟨u,hu,hv⟩:=(g5 q WR).2 j hj';refine ⟨u,hu,?_⟩;have e2:(es.take len)[q][j]=es[q][j]:=by simp only [heq]
    rw [e2];exact hV _ _ (cO (ij hbe q WR) j hj') hv
   ·have hs':c.H[i]?=some (.live bR bA bC):=by rw [<-hne i hi];exact hs
    obtain ⟨cells,elem,g1,g2,g3,g4,g5⟩:=h.sr.hr.back i bR bA bC hs' hbk;have hilt:i < id:=by have:=bL hs';omega
    have oQ:=iS WQ i _ (by rw [zb5,if_pos hilt];exact hs');simp only [Obj.bp] at oQ;refine ⟨cells,elem,g1,g2,g3,g4,fun q hq=>⟨(g5 q hq).1,fun j hj=>?_⟩⟩;obtain ⟨u,hu,hv⟩:=(g5 q hq).2 j hj;exact ⟨u,hu,hV _ _ (cO (ij oQ q hq) j hj) hv⟩
  ·intro i i' bR bA bC yF En pD h1 h2 h3 h4 he hlt;have hi':i≠id:=by
    intro e;have:=bL h3;rw [show d.H=H' from rfl] at this;simp only [H',zbK] at this;omega
   have HZ:c.H[i]?=some (.live bR bA bC):=by rw [<-hne i hi'];exact h1
   by_cases hi:i'=id
   ·subst hi;rw [show d.H=H' from rfl,wg] at h3;injection h3 with h3;injection h3 with q1 q2 q3
    subst q1;subst q2;subst q3;have:=h.sr.hr.inj i i' _ _ _ _ _ _ HZ h2 hid (by simp) he hlt;obtain ⟨p1,p2,_⟩:=this;simp [Fl.B1] at p2
   ·exact h.sr.hr.inj i i' _ _ _ _ _ _ HZ h2 (by rw [<-hne i' hi];exact h3) h4 he hlt
  ·exact (h.sr.hO b).trans ⟨fun q=>q.imp (fun z=>z) (hown b).2,fun q=>q.imp (fun z=>z) (hown b).1⟩
 refine ⟨d,rfl,⟨N5,⟨by simpa using h.tr.1,fun i hi hj=>?_⟩,by simp [d,H',h.hH],h.df,h.gl.oO hG aU⟩,aU⟩;rw [zbW];split
 ·rename_i e;subst e;have hv:=h.tr.2 t Ey hj;rw [hte] at hv;generalize a.tmps[t]=tv at hv
  cases hv with
  | own _ _ _ _ _ how=>
   obtain ⟨q1,q2,how⟩:=how;refine .own _ _ _ _ _ ⟨ct _ q1,q2,fun bR bA bC hs=>?_⟩;rw [show d.H=H' from rfl,wg] at hs;injection hs with hs;injection hs with r1 r2 r3
   subst r1;subst r2;subst r3;obtain ⟨p1,how⟩:=how _ _ _ hid;obtain ⟨p2,how⟩:=how fe;refine ⟨by simp [zbu];omega,fun _=>⟨by omega,?_⟩⟩;rcases how with ⟨z1,_⟩ | ⟨_,cap,z1,z2⟩
   ·simp at z1
   ·exact .inr ⟨by simp,cap,z1,z2⟩
 ·rename_i e;have hilt:i < s.tmps.length:=by simpa using hi
  have Im:=cO hbt i (by simpa using hilt);rw [zbk e] at Im;exact hV _ _ Im (h.tr.2 i hilt hj)
theorem PF {j e o l:Nat} {H H1:List Obj} {r:AV} (h:ke 0 ⟨[.own j e o l],H⟩=some ⟨[r],H1⟩):H1=H.set j .dead/\r.cells=[r]:=by
 unfold ke at h;simp only [List.getD_cons_zero] at h;split at h
 ·split at h
  ·simp only [za1,St.mk.injEq,zb8,zaE,and_true] at h;obtain ⟨rfl,rfl⟩:=h;exact ⟨rfl,rfl⟩
  ·simp at h
 ·simp at h
theorem BJ (hG:∀ g,AV.aT 0 (G g)=true) {base:Nat} {s s':St} {a:Act} {g:GA} (h:FR lo F G c s a) (hf:dB base s g=some s'):
 ∃ d:Ctx,d.w=c.w/\FR lo F G d s' a/\cW base c d:=by
 cases g with
 | sh t=>
  simp only [dB] at hf;split at hf
  case h_2=>injection hf with hf;subst hf;exact ⟨c,rfl,h,cW.refl _ _⟩
  rename_i id ext off len nA;split at hf
  case h_2=>injection hf with hf;subst hf;exact ⟨c,rfl,h,cW.refl _ _⟩
  rename_i sz x l hl;obtain ⟨nl,hid⟩:=bB hl;have hm:mark Fl.sh s.H id=s.H.set id (.live nl.sh sz (x::l)):=by simp [mark,hid]
  injection hf with hf;subst hf
  rw [<-h.hH] at hid;obtain ⟨d,d1,d2,d3⟩:=xV h.sr hid (fl:=nl.sh) (by cases nl<;>simp [Fl.sh]) (fun q=> .inl (by cases nl<;>simp [Fl.sh,Fl.old] at q ⊢)) (fun q=>by cases nl<;>simp [Fl.sh,Fl.B1] at q ⊢);exact ⟨d,d1,FR.hJ hG h d3 (by rw [d2,hm,h.hH]) rfl,d3.2.2 base⟩
 | res t=>
  simp only [dB] at hf;split at hf
  case h_2=>injection hf with hf;subst hf;exact ⟨c,rfl,h,cW.refl _ _⟩
  rename_i id ext off len nA;split at hf
  case isFalse=>injection hf with hf;subst hf;exact ⟨c,rfl,h,cW.refl _ _⟩
  rename_i hno;injection hf with hf;subst hf
  cases hid:s.H[id]? with
  | none=>
   have hm:mark Fl.res s.H id=s.H:=by simp [mark,hid]
   exact ⟨c,rfl,⟨h.sr,h.tr,by rw [h.hH,hm],h.df,h.gl⟩,cW.refl _ _⟩
  | some o=>
  cases o with
  | dead=>
   have hm:mark Fl.res s.H id=s.H:=by simp [mark,hid]
   exact ⟨c,rfl,⟨h.sr,h.tr,by rw [h.hH,hm],h.df,h.gl⟩,cW.refl _ _⟩
  | iA=>
   have hm:mark Fl.res s.H id=s.H:=by simp [mark,hid]
   exact ⟨c,rfl,⟨h.sr,h.tr,by rw [h.hH,hm],h.df,h.gl⟩,cW.refl _ _⟩
  | mp _=>
   have hm:mark Fl.res s.H id=s.H:=by simp [mark,hid]
   exact ⟨c,rfl,⟨h.sr,h.tr,by rw [h.hH,hm],h.df,h.gl⟩,cW.refl _ _⟩
  | it _ _=>
   have hm:mark Fl.res s.H id=s.H:=by simp [mark,hid]
   exact ⟨c,rfl,⟨h.sr,h.tr,by rw [h.hH,hm],h.df,h.gl⟩,cW.refl _ _⟩
  | lp _ _ _ _ _=>
   have hm:mark Fl.res s.H id=s.H:=by simp [mark,hid]
   exact ⟨c,rfl,⟨h.sr,h.tr,by rw [h.hH,hm],h.df,h.gl⟩,cW.refl _ _⟩
  | live nl sz es=>
   have hm:mark Fl.res s.H id=s.H.set id (.live nl.res sz es):=by simp [mark,hid]
   rw [<-h.hH] at hid hno;obtain ⟨d,d1,d2,d3⟩:=xV h.sr hid (fl:=nl.res) (by cases nl<;>simp [Fl.res])
    (fun _=> .inr fun j bR bA bC hlt hs=>zP hno (i:=j - (id+1)) (by rw [List.getElem?_drop];rw [show id+1+(j - (id+1))=j by omega];exact hs))
    (fun q=>by cases nl<;>simp [Fl.res,Fl.B1] at q ⊢)
   exact ⟨d,d1,FR.hJ hG h d3 (by rw [d2,hm,h.hH]) rfl,d3.2.2 base⟩
 | wk l=>
  simp only [dB,za1] at hf;subst hf;obtain ⟨d,d1,d2,d3⟩:=zO hG l h;exact ⟨d,d1,d2,d3 base⟩
 | kill l=>
  simp only [dB,za1] at hf;subst hf;exact ⟨c,rfl,⟨h.sr,CX l h.tr,h.hH,h.df,h.gl⟩,cW.refl _ _⟩
 | kn n=>
  simp only [dB] at hf;split at hf
  case isFalse=>injection hf with hf;subst hf;exact ⟨c,rfl,h,cW.refl _ _⟩
  rename_i hc;simp only [za0] at hc;injection hf with hf;subst hf
  obtain ⟨d,d1,d2,d3,d4,d5⟩:=D2 h.sr (base+n) (by rw [h.hH];exact hc.2.2);refine ⟨d,d1,⟨d3,⟨h.tr.1,fun i hi hj=>d4 _ _ (cO hc.2.1 i hi) (h.tr.2 i hi hj)⟩,by rw [d2,h.hH],h.df.oO h.sr (d5 0 (zaJ _)),h.gl.oO hG (d5 0 (zaJ _))⟩,d5 base (by omega)⟩
 | ua t=>
  simp only [dB] at hf;split at hf
  ·rename_i s1 hs1;injection hf with hf;subst hf
   obtain ⟨d,d1,d2,d3,_⟩:=tu hG h hs1;exact ⟨d,d1,d2,d3 base⟩
  ·injection hf with hf;subst hf;exact ⟨c,rfl,h,cW.refl _ _⟩
 | prom t sz=>
  simp only [dB] at hf;split at hf
  case h_2=>injection hf with hf;subst hf;exact ⟨c,rfl,h,cW.refl _ _⟩
  rename_i nA;injection hf with hf;subst hf
  obtain ⟨Ey,hte⟩:=getD_some nA (by simp);obtain ⟨d,d1,d2,d3,d4,d5,d6,d7⟩:=zQ (G:=G) h.sr sz;refine ⟨d,d1,⟨d3,TR.set (h.tr.hJ d4) t (fun hj=>?_),by rw [d2,h.hH],h.df.oO h.sr (d5 0),d7 h.gl⟩,d5 base⟩;have hv:=h.tr.2 t Ey hj;rw [hte] at hv;generalize a.tmps[t]=tv at hv ⊢
  cases hv;rw [<-h.hH];exact d6
 | o8 t off sz=>
  simp only [dB] at hf;split at hf
  case h_2=>injection hf with hf;subst hf;exact ⟨c,rfl,h,cW.refl _ _⟩
  rename_i id ext e o nA;split at hf
  case h_2=>injection hf with hf;subst hf;exact ⟨c,rfl,h,cW.refl _ _⟩
  rename_i eW;split at hf
  case h_2=>simp at hf
  rename_i H2 hst;injection hf with hf;subst hf
  obtain ⟨d,d1,d2,d3,d4,d5,d6,d7⟩:=zQ (G:=G) h.sr sz;rw [<-h.hH] at eW hst;unfold loadAt at eW;simp only at eW;split at eW
  case h_2=>simp at eW
  rename_i bA es hl;obtain ⟨nl,hid⟩:=bB hl;split at eW
  case isFalse=>simp at eW
  rename_i fe;split at eW
  case h_2=>simp at eW
  rename_i cs hcs;obtain ⟨he,rfl⟩:=zaa.1 hcs;simp only [part,za8,if_false] at eW;obtain ⟨hoff,jc⟩:=zaa.1 eW;have cv:=bL hid;have dy:d.H[id]?=some (.live nl bA es):=by rw [d2,zap cv];exact hid
  have hbk:¬(nl= .nil/\es=[]):=by rintro ⟨_,rfl⟩;simp at he
  obtain ⟨cells,elem,b1,b2,b3,b4,b5⟩:=d3.hr.back id nl bA es dy hbk;have Tl:H2=(c.H++[Obj.live .nil sz []]).set id (Obj.live nl bA (es.set e (putAt es[e] (o+off) [.own c.H.length 0 0 0])))/\nl.free=true:=by
   unfold storeAt at hst;simp only at hst;have Em:aH (c.H++[Obj.live .nil sz []]) id=some (bA,es):=by rw [<-d2];simp [aH,dy]
   rw [Em] at hst;simp only at hst;split at hst
   case isFalse=>simp at hst
   rename_i N6;rw [hcs] at hst;simp only [za1] at hst
   refine ⟨?_,by have hn2:cD (c.H++[Obj.live .nil sz []]) id=nl:=by rw [<-d2];simp [cD,dy]
                 rw [hn2] at N6;exact N6.2.2.2.2⟩
   rw [<-hst];have hn2:cD (c.H++[Obj.live .nil sz []]) id=nl:=by rw [<-d2];simp [cD,dy]
   rw [hn2];rfl
  obtain ⟨y7,hfree⟩:=Tl;obtain ⟨q1,q2⟩:=b5 e he;have hput:∀ j (hj:j < (putAt es[e] (o+off) [AV.own c.H.length 0 0 0]).length),(putAt es[e] (o+off) [AV.own c.H.length 0 0 0])[j]=if j=o+off then .own c.H.length 0 0 0 else es[e][j]'(by rw [cc] at hj;exact hj):=by
   intro j hj;rw [lK _ _ _ _ hj (by simp;omega)];by_cases H6:j=o+off
   ·subst H6;rw [dif_pos (by simp),if_pos rfl];simp
   ·rw [dif_neg (by simp;omega),if_neg H6]
  obtain ⟨dd,e1,e2,e3,e4,e5,_,_⟩:=uc d3 id (d.ι id) (d.K id) nl bA (es.set e (putAt es[e] (o+off) [.own c.H.length 0 0 0])) cells elem d.w H2
   (by rw [y7,d2];simp) (by rw [y7,zaY (by simp;omega)]) (fun j hj=>by left;rw [y7,za7 (fun q=>hj q.symm),d2]) (by rw [dy];simp) (Ck dy)
   (fun bR En bC h0=>by
    rw [dy] at h0;injection h0 with h0;injection h0 with r1 r2 r3
    subst r1;subst r2;subst r3;exact ⟨rfl,rfl,by simp,fun _=>⟨hbk,rfl,rfl⟩⟩)
   (by rintro ⟨r1,r2⟩;have:=congrArg List.length r2;simp at this;exact hbk ⟨r1,this⟩)
   (dx.refl _) (za6 _) (fun _ _ _=>rfl) b1 (.inr ⟨id,nl,bA,es,dy,hbk,rfl⟩)
   (fun j bR En pD hj hs0 j9 Jl=>(alone d3 dy hbk hfree hj hs0 j9 Jl).elim) b2 (by simpa using b3) (by
    intro i hi;simp at hi;by_cases Rl:e=i
    ·subst Rl;simp only [List.getElem_set_self];refine ⟨by rw [cc];exact q1,fun j hj=>?_⟩;have hj':j < es[e].length:=by rw [cc] at hj;exact hj
     obtain ⟨u,hu,hv⟩:=q2 j hj';refine ⟨u,hu,?_⟩;rw [hput j hj];by_cases H6:j=o+off
     ·rw [if_pos H6];subst H6;rw [jc] at hv
      cases hv;exact d6
     ·rw [if_neg H6];exact hv
    ·have hg:(es.set e (putAt es[e] (o+off) [AV.own c.H.length 0 0 0]))[i]'(by simp;exact hi)=es[i]:=by rw [zbk Rl]
     obtain ⟨g1,g2⟩:=b5 i hi;refine ⟨by rw [hg];exact g1,fun j hj=>?_⟩;have hj2:j < es[i].length:=by rw [hg] at hj;exact hj
     obtain ⟨u,hu,hv⟩:=g2 j hj2;refine ⟨u,hu,?_⟩;have:(es.set e (putAt es[e] (o+off) [AV.own c.H.length 0 0 0]))[i][j]'hj=es[i][j]:=by simp only [hg]
     rw [this];exact hv)
  refine ⟨dd,by rw [e1,d1],⟨e3,(h.tr.hJ d4).hJ e4,by rw [e2],h.df.oO h.sr ((d5 base).trans (e5 base)),fun g=>e4 _ _ (d7 h.gl g)⟩,(d5 base).trans (e5 base)⟩
 | nk t=>
  simp only [dB] at hf;split at hf
  ·rename_i s1 hs1;injection hf with hf;subst hf
   obtain ⟨d,d1,d2,d3⟩:=Fz hG h hs1;exact ⟨d,d1,d2,d3 base⟩
  ·injection hf with hf;subst hf;exact ⟨c,rfl,h,cW.refl _ _⟩
 | yR t off=>
  simp only [dB] at hf;split at hf
  case h_2=>injection hf with hf;subst hf;exact ⟨c,rfl,h,cW.refl _ _⟩
  rename_i id ext e o nA;split at hf
  case h_2=>injection hf with hf;subst hf;exact ⟨c,rfl,h,cW.refl _ _⟩
  rename_i j ext' off' len' eW;split at hf
  ·simp at hf
  rename_i hji;split at hf
  case h_2=>injection hf with hf;subst hf;exact ⟨c,rfl,h,cW.refl _ _⟩
  rename_i r H1 hfz;split at hf
  case h_2=>simp at hf
  rename_i H2 hst;injection hf with hf;subst hf
  have aeL:=eW;rw [<-h.hH] at eW;unfold loadAt at eW;simp only at eW;split at eW
  case h_2=>simp at eW
  rename_i bA es hl;obtain ⟨nl,hid⟩:=bB hl;split at eW
  case isFalse=>simp at eW
  rename_i fe;split at eW
  case h_2=>simp at eW
  rename_i cs hcs;obtain ⟨he,rfl⟩:=zaa.1 hcs;simp only [part,za8,if_false] at eW;obtain ⟨hoff,hcell⟩:=zaa.1 eW;have cv:=bL hid;have hbk:¬(nl= .nil/\es=[]):=by rintro ⟨_,rfl⟩;simp at he
  obtain ⟨cells,elem,b1,b2,b3,b4,b5⟩:=h.sr.hr.back id nl bA es hid hbk;obtain ⟨u,hu,huv⟩:=(b5 e he).2 (o+off) hoff;rw [hcell] at huv;have adj:FR lo F G c ⟨[.own j ext' off' len'],s.H⟩ { a with tmps:=#[u] }:=⟨h.sr,⟨rfl,fun i hi hj=>by
   have:i=0:=by simp at hi;exact hi
   subst this;exact huv⟩,h.hH,h.df,h.gl⟩
  obtain ⟨d,d1,d2,d3,d4⟩:=tu hG adj hfz;have hru:V d r u:=d2.tr.2 0 (by simp) (by simp);obtain ⟨F4,hrc⟩:=PF hfz;have dy:d.H[id]?=some (.live nl bA es):=by
   rw [d2.hH,<-hid,h.hH];rw [show (⟨[r],H1⟩:St).H=H1 from rfl,F4,za7 hji]
  obtain ⟨Lc,Y0,c1,c2,c3,c4,c5⟩:=d2.sr.hr.back id nl bA es dy hbk;have N6:Lc=cells:=by
   rw [d1,d4,b1] at c1;injection c1 with c1;injection c1 with c1;exact c1.symm
  subst N6;have Tl:H2=d.H.set id (Obj.live nl bA (es.set e (putAt es[e] (o+off) [r])))/\nl.free=true:=by
   unfold storeAt at hst;simp only at hst;have Em:aH H1 id=some (bA,es):=by rw [show H1=d.H from d2.hH.symm];simp [aH,dy]
   rw [Em] at hst;simp only at hst;split at hst
   case isFalse=>simp at hst
   rename_i N6;rw [hcs] at hst;simp only [za1] at hst;have hn2:cD H1 id=nl:=by rw [show H1=d.H from d2.hH.symm];simp [cD,dy]
   rw [hn2] at hst N6;rw [hrc] at hst;exact ⟨by rw [<-hst,show H1=d.H from d2.hH.symm],N6.2.2.2.2⟩
  obtain ⟨y7,hfree⟩:=Tl;have adk:id < d.H.length:=bL dy;have hput:∀ q (hq:q < (putAt es[e] (o+off) [r]).length),(putAt es[e] (o+off) [r])[q]=if q=o+off then r else es[e][q]'(by rw [cc] at hq;exact hq):=by
   intro q hq;rw [lK _ _ _ _ hq (by simp;omega)];by_cases H6:q=o+off
   ·subst H6;rw [dif_pos (by simp),if_pos rfl];simp
   ·rw [dif_neg (by simp;omega),if_neg H6]
  obtain ⟨dd,e1,e2,e3,e4,e5,_,_⟩:=uc d2.sr id (d.ι id) (d.K id) nl bA (es.set e (putAt es[e] (o+off) [r])) Lc Y0 d.w H2
   (by rw [y7];simp) (by rw [y7,zaY adk]) (fun q hq=>by left;rw [y7,za7 (fun z=>hq z.symm)]) (by rw [dy];simp) (Ck dy)
   (fun bR En bC h0=>by
    rw [dy] at h0;injection h0 with h0;injection h0 with r1 r2 r3
    subst r1;subst r2;subst r3;exact ⟨rfl,rfl,by simp,fun _=>⟨hbk,rfl,rfl⟩⟩)
   (by rintro ⟨r1,r2⟩;have:=congrArg List.length r2;simp at this;exact hbk ⟨r1,this⟩)
   (dx.refl _) (za6 _) (fun _ _ _=>rfl) c1 (.inr ⟨id,nl,bA,es,dy,hbk,rfl⟩)
   (fun q bR En pD hj hs0 j9 Jl=>(alone d2.sr dy hbk hfree hj hs0 j9 Jl).elim) c2 (by simpa using c3) (by
    intro i hi;simp at hi;by_cases Rl:e=i
    ·subst Rl;simp only [List.getElem_set_self];refine ⟨by rw [cc];exact (c5 e he).1,fun q hq=>?_⟩;have WR:q < es[e].length:=by rw [cc] at hq;exact hq
     obtain ⟨u2,Ez,hv⟩:=(c5 e he).2 q WR;refine ⟨u2,Ez,?_⟩;rw [hput q hq];by_cases H6:q=o+off
     ·rw [if_pos H6];subst H6;rw [hu] at Ez;injection Ez with Ez
      subst Ez;exact hru
     ·rw [if_neg H6];exact hv
    ·have hg:(es.set e (putAt es[e] (o+off) [r]))[i]'(by simp;exact hi)=es[i]:=by rw [zbk Rl]
     obtain ⟨g1,g2⟩:=c5 i hi;refine ⟨by rw [hg];exact g1,fun q hq=>?_⟩;have hj2:q < es[i].length:=by rw [hg] at hq;exact hq
     obtain ⟨u2,Ez,hv⟩:=g2 q hj2;refine ⟨u2,Ez,?_⟩;have:(es.set e (putAt es[e] (o+off) [r]))[i][q]'hq=es[i][q]:=by simp only [hg]
     rw [this];exact hv)
  refine ⟨dd,by rw [e1,d1],⟨e3,TR.hJ (c:=d) ⟨h.tr.1,fun i hi hj=>(d3 c.H.length).vals _ _ ((h.tr.2 i hi hj).bp) (h.tr.2 i hi hj)⟩ e4,by rw [e2],(h.df.oO h.sr (d3 base)).oO d2.sr (e5 base),fun g=>e4 _ _ (d2.gl g)⟩,(d3 base).trans (e5 base)⟩
 | cut t=>
  simp only [dB] at hf;split at hf
  case h_2=>simp at hf
  rename_i id ext len nA;split at hf
  case h_2=>simp at hf
  rename_i sz es hid;split at hf
  case isFalse=>simp at hf
  rename_i hc;simp only [za0,Nat.ble_eq] at hc;obtain ⟨⟨⟨⟨hb,ny⟩,fe,hle⟩,hbt,WQ⟩,hbe⟩:=hc;replace ny:=za3 ny;replace fe:=za3 fe;injection hf with hf;subst hf
  obtain ⟨Ey,hte⟩:=getD_some nA (by simp);rw [<-h.hH] at hid ny WQ;exact IC hG h hb ny hid fe hle Ey hte hbt WQ hbe
theorem jm (hG:∀ g,AV.aT 0 (G g)=true) {base:Nat}:∀ (gs:List GA) {c:Ctx} {s s':St} {a:Act},FR lo F G c s a->iX base gs s=some s'->
 ∃ d:Ctx,d.w=c.w/\FR lo F G d s' a/\cW base c d
 | [],c,s,s',a,h,hf=>by simp [iX] at hf;subst hf;exact ⟨c,rfl,h,cW.refl _ _⟩
 | g::gs,c,s,s',a,h,hf=>by
  simp only [iX] at hf;split at hf
  case h_2=>simp at hf
  rename_i s1 h1;obtain ⟨d,d1,d2,d3⟩:=BJ hG h h1;obtain ⟨e,e1,e2,e3⟩:=jm hG gs d2 hf;exact ⟨e,by rw [e1,d1],e2,d3.trans e3⟩
end
end Go.Am
end
section
namespace Go.Am
section
variable {c d:Ctx}
structure Cb (c d:Ctx):Prop where
 hw:d.w=c.w
 hO:∀ b,d.O b->c.O b
 hown:∀ b,bF c.H c.ι b->¬ d.O b
theorem Cb.free (l:Cb c d) {x:AV} {v:Value} (hb:x.bp 0=true) (hx:V c x v):V d x v:=
 V.monoB 0 (fun b hb _=>⟨by rw [l.hw],fun hd=>hb (l.hO b hd)⟩) (fun _ _ _ _ _ h=>by omega) (fun _ _ _ _ _ h=>by omega) (fun _ _ _ _ _ _ h=>by omega) (fun _ _ h=>by omega) hx hb
theorem pU {f:AV->Option AV} (hf:∀ x y v,V c x v->f x=some y->V d y v/\y.bp 0=true):∀ (xs ys:List AV) (vs:Nat->Value),(∀ i (hi:i < xs.length),V c xs[i] (vs i))->fC f xs=some ys->
 ys.length=xs.length/\∀ i (hi:i < ys.length),V d ys[i] (vs i)/\ys[i].bp 0=true
 | [],ys,vs,_,h=>by simp [fC] at h;subst h;simp
 | x::xs,ys,vs,hv,h=>by
  simp only [fC] at h;split at h
  case h_2=>simp at h
  rename_i y r h1 h2;injection h with h;subst h
  have e1:=hf _ _ _ (hv 0 (by simp)) h1;obtain ⟨e2,e3⟩:=pU hf xs r (fun i=>vs (i+1)) (fun i hi=>hv (i+1) (Nat.succ_lt_succ hi)) h2;refine ⟨by simp [e2],fun i hi=>?_⟩
  cases i with
  | zero=>exact e1
  | succ i=>exact e3 i (zb6 hi)
theorem Bm {f:AV->Option AV} (hf:∀ x y v,V c x v->f x=some y->V d y v/\y.bp 0=true):∀ (xs ys:List (List AV)) (vs:Nat->Nat->Value),(∀ i j (hi:i < xs.length) (hj:j < xs[i].length),V c xs[i][j] (vs i j))->gE f xs=some ys->
 ys.length=xs.length/\∀ i (hi:i < ys.length) (hi':i < xs.length),ys[i].length=xs[i].length/\∀ j (hj:j < ys[i].length),V d ys[i][j] (vs i j)/\ys[i][j].bp 0=true
 | [],ys,vs,_,h=>by simp [gE] at h;subst h;simp
 | x::xs,ys,vs,hv,h=>by
  simp only [gE] at h;split at h
  case h_2=>simp at h
  rename_i y r h1 h2;injection h with h;subst h
  obtain ⟨e1,Sz⟩:=pU hf x y (vs 0) (fun j hj=>hv 0 j (by simp) hj) h1;obtain ⟨e2,e3⟩:=Bm hf xs r (fun i=>vs (i+1)) (fun i j hi hj=>hv (i+1) j (Nat.succ_lt_succ hi) hj) h2;refine ⟨by simp [e2],fun i hi hi'=>?_⟩
  cases i with
  | zero=>exact ⟨e1,Sz⟩
  | succ i=>exact e3 i (zb6 hi) (zb6 hi')
theorem Bn {f:AV->Option AV} (hf:∀ x,x.bp 0=true->f x=some x):∀ (xs:List AV),AV.aT 0 xs=true->fC f xs=some xs
 | [],_=>rfl
 | x::xs,h=>by
  simp only [AV.aT,za0] at h;simp only [fC,hf x h.1,Bn hf xs h.2]
theorem rB {f:AV->Option AV} (hf:∀ x,x.bp 0=true->f x=some x):∀ (xs:List (List AV)),AV.bN 0 xs=true->gE f xs=some xs
 | [],_=>rfl
 | x::xs,h=>by
  simp only [AV.bN,za0] at h;simp only [gE,Bn hf x h.1,rB hf xs h.2]
theorem Y1 (n:Nat) (H:List Obj) (x:AV) (h:x.bp 0=true):pk n H x=some x:=by
 cases n<;>simp [pk,AV.fE,h]
theorem Y2 (hr:HR c) (l:Cb c d) {p:AV->Option AV} (hp:∀ x y v,V c x v->p x=some y->V d y v/\y.bp 0=true) (x y:AV) (v:Value) (hx:V c x v) (h:NY p c.H x=some y):V d y v/\y.bp 0=true:=by
 unfold NY at h;split at h
 ·rename_i id ext e o;split at h
  case h_2=>simp at h
  rename_i sz es hl;obtain ⟨nl,hid⟩:=bB hl;split at h
  case isFalse=>simp at h
  rename_i fe;split at h
  case h_2=>simp at h
  rename_i cs hcs;obtain ⟨he,rfl⟩:=zaa.1 hcs;split at h
  case h_2=>simp at h
  rename_i r hr';injection h with h;subst h
  cases hx with
  | aA _ _ _ _ _ ha=>
   obtain ⟨hlt',a,rfl,hsp,ha⟩:=ha;have:=(ha _ _ _ hid).2 fe;subst this;have hbk:¬(nl= .nil/\es=[]):=by rintro ⟨_,rfl⟩;simp at he
   obtain ⟨vs,_,v3,v4⟩:=jW hr hid he;obtain ⟨e1,e2⟩:=pU (d:=d) hp _ r (fun j=>vs (o+j)) (fun j hj=>by
    simp only [zaq] at hj ⊢;exact v4 (o+j) (by simp at hj;omega)) hr'
   refine ⟨.bZ _ _ (fun j=>vs (o+j)) (fun j hj=>(e2 j hj).2) (fun _=>⟨rfl,l.hown _ ⟨id,nl,sz,es,hid,hbk,rfl⟩⟩) (fun j hj=>?_) (fun j hj=>(e2 j hj).1),by simp only [AV.bp]⟩;have:=v3 (o+j) (by simp at e1;omega);rw [l.hw,<-this];congr 2;simp only;omega
 ·exact hp _ _ _ hx h
theorem XE (hr:HR c) (l:Cb c d):∀ (n:Nat) (x y:AV) (v:Value),V c x v->pk n c.H x=some y->V d y v/\y.bp 0=true:=by
 intro n;induction n with
 | zero=>
  intro x y v hx h;simp only [pk] at h;split at h
  ·rename_i hf;injection h with h;subst h;exact ⟨l.free hf hx,hf⟩
  ·simp at h
 | succ n ih=>
  intro x y v hx h;simp only [pk] at h;split at h
  ·rename_i hf;injection h with h;subst h;exact ⟨l.free hf hx,hf⟩
  rename_i hnf;clear hnf;split at h
  ·rename_i id ext off len;split at h
   case h_2=>simp at h
   rename_i sz es hl;obtain ⟨nl,hid⟩:=bB hl;split at h
   case isFalse=>simp at h
   rename_i fe;split at h
   case h_2=>simp at h
   rename_i r hr';injection h with h
   have qz:cD c.H id=nl:=by simp [cD,hid]
   rw [qz] at h
   cases hx with
   | own _ _ _ _ _ how=>
    obtain ⟨_,_,how⟩:=how;obtain ⟨hle,how⟩:=how _ _ _ hid;obtain ⟨V5,how⟩:=how fe;rcases how with ⟨q1,q2,rfl⟩ | ⟨hbk,cap,rfl,hcap⟩
    ·subst q2;simp only [List.drop_nil,List.take_nil,gE,za1] at hr';subst hr';simp only [su] at h;subst h;exact ⟨.B0,by simp [AV.bp,AV.bN]⟩
    ·obtain ⟨cells,elem,g1,g2,g3,g4,g5⟩:=hr.back id nl sz es hid hbk;have hro:su nl es r= .ro r:=rfl;rw [hro] at h;subst h;have hlen:((es.drop off).take len).length=len:=by simp;omega
     obtain ⟨e1,e2⟩:=Bm (d:=d) ih _ r (fun i j=>(cells[(off+i)*sz+j]?).getD undef) (fun i j hi hj=>by
      simp only [zao,zaq] at hj ⊢;obtain ⟨u,hu,hv⟩:=(g5 (off+i) (by omega)).2 j hj;rw [hu];exact hv) hr'
     have hrl:r.length=len:=by omega
     refine ⟨?_,by simp only [AV.bp]⟩;conv=>rhs;rw [<-hrl]
     have hsz:∀ i (hi:i < r.length),r[i].length=sz:=by
      intro i hi;rw [(e2 i hi (by omega)).1];simp only [zao,zaq];exact (g5 _ _).1
     refine .ro _ _ cap sz (fun i j=>(cells[(off+i)*sz+j]?).getD undef) (fun i j hi hj=>((e2 i hi (by omega)).2 j hj).2) (by omega) (fun _ _=>⟨rfl,l.hown _ ⟨id,nl,sz,es,hid,hbk,rfl⟩⟩) hsz (fun i j hi hj=>?_) (fun i j hi hj=>((e2 i hi (by omega)).2 j hj).1);have hj':j < es[off+i].length:=by rw [(g5 (off+i) (by omega)).1];rw [hsz i hi] at hj;exact hj
     obtain ⟨u,hu,_⟩:=(g5 (off+i) (by omega)).2 j hj';have e3:off*sz+i*sz=(off+i)*sz:=by rw [zaw]
     simp only [l.hw,World.cell?,g1,e3,hu];simp
  ·rename_i id ext e o sz len;split at h
   case h_2=>simp at h
   rename_i la hla;split at h
   case h_2=>simp at h
   rename_i r hr';injection h with h;subst h
   unfold iM at hla;split at hla
   case h_2=>simp at hla
   rename_i SZ es hl';obtain ⟨nl,hid⟩:=bB hl';split at hla
   case isFalse=>simp at hla
   rename_i fe;split at hla
   case h_2=>simp at hla
   rename_i cs hcs;obtain ⟨he,rfl⟩:=zaa.1 hcs;split at hla
   case isFalse=>simp at hla
   rename_i hle;injection hla with hla
   have j4:=iE sz len (es[e].drop o)
   cases hx with
   | arr _ _ _ _ _ _ _ ha=>
    obtain ⟨hlt',a,⟨cap,rfl,hcap⟩,hsp,ha⟩:=ha;have:=(ha _ _ _ hid).2 fe;subst this;have hbk:¬(nl= .nil/\es=[]):=by rintro ⟨_,rfl⟩;simp at he
    obtain ⟨vs,_,v3,v4⟩:=jW hr hid he;have hmul:∀ i,i < len->i*sz+sz<=len*sz:=by
     intro i hi;have:=zae sz (show i+1<=len by omega);rw [zaw,zaT] at this;exact this
    have hsz:∀ i (hi:i < la.length),la[i].length=sz:=by
     intro i hi;subst hla;rw [fA];have:=hmul i (by rw [j4] at hi;exact hi);simp;omega
    have SA:la.length=len:=by rw [<-hla];exact j4
    have hge:∀ i j (hi:i < la.length) (hj:j < la[i].length),∃ h2:o+(i*sz+j) < es[e].length,la[i][j]=es[e][o+(i*sz+j)]:=by
     intro i j hi hj;have hj':j < sz:=by rw [hsz i hi] at hj;exact hj
     have:=hmul i (by omega);refine ⟨by omega,?_⟩;subst hla;simp only [fA,zao,zaq]
    obtain ⟨e1,e2⟩:=Bm (d:=d) ih _ r (fun i j=>vs (o+(i*sz+j))) (fun i j hi hj=>by
     obtain ⟨h2,h3⟩:=hge i j hi hj;rw [h3];exact v4 _ h2) hr'
    have hrl:r.length=len:=by omega
    refine ⟨?_,by simp only [AV.bp]⟩;conv=>rhs;rw [<-hrl]
    refine .ro _ _ cap sz (fun i j=>vs (o+(i*sz+j))) (fun i j hi hj=>((e2 i hi (by omega)).2 j hj).2) (by omega) (fun _ _=>⟨rfl,l.hown _ ⟨id,nl,SZ,es,hid,hbk,rfl⟩⟩) (fun i hi=>by rw [(e2 i hi (by omega)).1];exact hsz i (by omega))
     (fun i j hi hj=>?_) (fun i j hi hj=>((e2 i hi (by omega)).2 j hj).1)
    have hj':j < la[i].length:=by rw [<-(e2 i hi (by omega)).1];exact hj
    obtain ⟨h2,_⟩:=hge i j (by omega) hj';have:=v3 (o+(i*sz+j)) h2;rw [l.hw,<-this];congr 2;simp only;omega
  ·rename_i cs;split at h
   case h_2=>simp at h
   rename_i r hr';injection h with h;subst h
   cases hx with
   | agg _ vs hs hv=>
    obtain ⟨e1,e2⟩:=pU (d:=d) ih cs r (fun i=>vs[i]?.getD undef) (fun i hi=>by
     have hi':i < vs.size:=by omega
     simp only [zaj hi',zar];exact hv i hi hi') hr'
    refine ⟨.agg _ _ (by omega) fun i hi hj=>?_,by simp only [AV.bp];exact jj fun i hi=>(e2 i hi).2⟩;have:=(e2 i hi).1;simpa only [zaj hj,zar] using this
  ·rename_i cs;split at h
   case h_2=>simp at h
   rename_i r hr';injection h with h;subst h
   cases hx with
   | bl _ vs hs hv=>
    obtain ⟨e1,e2⟩:=pU (d:=d) ih cs r (fun i=>vs[i]?.getD undef) (fun i hi=>by
     have hi':i < vs.size:=by omega
     simp only [zaj hi',zar];exact hv i hi hi') hr'
    refine ⟨.bl _ _ (by omega) fun i hi hj=>?_,by simp only [AV.bp];exact jj fun i hi=>(e2 i hi).2⟩;have:=(e2 i hi).1;simpa only [zaj hj,zar] using this
  ·rename_i f cap;split at h
   case h_2=>simp at h
   rename_i r hr';injection h with h;subst h
   cases hx with
   | fn _ _ vs hs hv=>
    obtain ⟨e1,e2⟩:=pU (d:=d) (Y2 hr l ih) cap r (fun i=>vs[i]?.getD undef) (fun i hi=>by
     have hi':i < vs.size:=by omega
     simp only [zaj hi',zar];exact hv i hi hi') hr'
    refine ⟨.fn _ _ _ (by omega) fun i hi hj=>?_,by simp only [AV.bp];exact jj fun i hi=>(e2 i hi).2⟩;have:=(e2 i hi).1;simpa only [zaj hj,zar] using this
  ·simp at h
theorem G3 (hr:HR c) (l:Cb c d) (xs ys:List AV) (vs:List Value) (hl:vs.length=xs.length) (hv:∀ i (hi:i < xs.length) (hj:i < vs.length),V c xs[i] vs[i]) (h:snaps c.H xs=some ys):
 ys.length=xs.length/\(∀ i (hi:i < ys.length) (hj:i < vs.length),V d ys[i] vs[i])/\AV.aT 0 ys=true:=by
 obtain ⟨e1,e2⟩:=pU (d:=d) (XE hr l 6) xs ys (fun i=>vs[i]?.getD undef) (fun i hi=>by
  have hi':i < vs.length:=by omega
  simp only [za2 hi',zar];exact hv i hi hi') h
 refine ⟨e1,fun i hi hj=>?_,jj fun i hi=>(e2 i hi).2⟩;have:=(e2 i hi).1;simpa only [za2 hj,zar] using this
theorem C0 (H:List Obj) (xs ys:List AV) (hb:AV.aT 0 xs=true) (h:snaps H xs=some ys):ys=xs:=by
 unfold snaps at h;rw [Bn (fun x hx=>Y1 6 H x hx) xs hb] at h;injection h with h;exact h.symm
theorem UD (hr:HR c) (l:Cb c d) {x y:AV} {v:Value} (hx:V c x v) (h:pack c.H x=some y):V d y v/\y.bp 0=true:=XE hr l 6 x y v hx h
theorem Ld {x:AV} {v:Value} (h:V c x v):x.flat=true->V d x v:=by
 have get:∀ (l:List AV),AV.jF l=true->∀ i (hi:i < l.length),l[i].flat=true:=by
  intro l;induction l with
  | nil=>intro _ i hi;simp at hi
  | cons x l ih=>
   intro h i hi;simp only [AV.jF,za0] at h
   cases i with
   | zero=>exact h.1
   | succ i=>exact ih h.2 i (zb6 hi)
 induction h with
 | any v=>intro _;exact .any v
 | bool b=>intro _;exact .bool b
 | int k n=>intro _;exact .int k n
 | str s=>intro _;exact .str s
 | g7=>intro _;exact .g7
 | bD=>intro _;exact .bD
 | kL=>intro _;exact .kL
 | pJ=>intro _;exact .pJ
 | nr=>intro _;exact .nr
 | agg cs vs hs _ ih=>intro hb;simp only [AV.flat] at hb;exact .agg cs vs hs fun i hi hj=>ih i hi hj (get cs hb i hi)
 | bl cs vs hs _ ih=>intro hb;simp only [AV.flat] at hb;exact .bl cs vs hs fun i hi hj=>ih i hi hj (get cs hb i hi)
 | _=>intro hb;simp [AV.flat] at hb
end
end Go.Am
end
