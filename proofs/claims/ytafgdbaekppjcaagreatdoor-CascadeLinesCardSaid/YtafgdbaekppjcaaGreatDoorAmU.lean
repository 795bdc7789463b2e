/- Ghost steps, joined; values handed to a callee that works apart, and back. Condition: the state's relation. -/
import Derived.Test.YtafgdbaekppjcaaGreatDoorAmT
set_option linter.unusedSectionVars false
set_option linter.unusedVariables false
set_option linter.unusedSimpArgs false
namespace Go.Am
section
variable {lo:Nat→Prop} {F:Fo} {c:Ctx} {G:Nat→List AV}
theorem FR.went {d:Ctx} {s s':St} {a:Act} (hG:∀ g,AV.bels 0 (G g)=true) (h:FR lo F G c s a) (hw:Went F c d) (hH:d.H=s'.H) (ht:s'.tmps=s.tmps):FR lo F G d s' a:=
 ⟨hw.1,by rw [ht];exact h.tr.went hw.2.1,hH,h.df.fut h.sr (hw.2.2 0),h.gl.fut hG (hw.2.2 0)⟩
theorem wk1_V {x:AV} {v:Value} (h:V c x v):V c x.wk1 v:=by
 unfold AV.wk1
 split
 ·cases h;exact .ro0
 ·exact h
theorem wk2_V {x:AV} {v:Value} (h:V c x v):V c x.wk2 v:=by
 unfold AV.wk2
 split
 ·cases h;exact .ro0
 ·cases h with
  | agg cs vs hs hv=>exact .agg _ _ (by simp [hs]) fun i hi hj=>by rw [List.getElem_map];exact wk1_V (hv i (by simpa using hi) hj)
 ·exact h
theorem wk_V {x:AV} {v:Value} (h:V c x v):V c x.wk v:=by
 unfold AV.wk
 split
 ·cases h;exact .ro0
 ·cases h with
  | agg cs vs hs hv=>exact .agg _ _ (by simp [hs]) fun i hi hj=>by rw [List.getElem_map];exact wk1_V (hv i (by simpa using hi) hj)
 ·cases h with
  | tup cs vs hs hv=>exact .tup _ _ (by simp [hs]) fun i hi hj=>by rw [List.getElem_map];exact wk2_V (hv i (by simpa using hi) hj)
 ·exact h
theorem obj_wk_sound (h:SR F c) (id:Nat) {o:Obj} (hid0:c.H[id]?=some o):
 ∃ d:Ctx,d.w=c.w∧d.H=c.H.set id o.wk∧SR F d∧(∀ x v,V c x v→V d x v)∧∀ n,Fut n c d:=by
 have same:∀ o':Obj,o=o'→∃ d:Ctx,d.w=c.w∧d.H=c.H.set id o'∧SR F d∧(∀ x v,V c x v→V d x v)∧∀ n,Fut n c d:=by
  rintro o' rfl
  refine ⟨c,rfl,?_,h,fun _ _ hv=>hv,fun n=>Fut.refl n c⟩
  apply List.ext_getElem?
  intro i
  rw [List.getElem?_set]
  by_cases hi:id=i
  ·subst hi
   obtain ⟨e1,e2⟩:=List.getElem?_eq_some_iff.1 hid0
   simp [e1,e2]
  ·simp [hi]
 cases o with
 | dead=>exact same _ rfl
 | rsv=>exact same _ rfl
 | mp _=>exact same _ rfl
 | it _ _=>exact same _ rfl
 | lp _ _ _ _ _=>exact same _ rfl
 | live nl sz es=>
  have hid:=hid0
  have hidlt:=lt_of_some hid
  let H':=c.H.set id (Obj.wk (.live nl sz es))
  have hget:∀ (i:Nat) nl0 sz0 es0,H'[i]?=some (.live nl0 sz0 es0)→∃ es1,c.H[i]?=some (.live nl0 sz0 es1)∧es1.length=es0.length∧
   ∀ q (h0:q < es0.length) (h1:q < es1.length),es0[q]=es1[q]∨es0[q]=es1[q].map AV.wk1:=by
   intro i nl0 sz0 es0 hs
   by_cases hi:i=id
   ·subst hi
    simp only [H',List.getElem?_set_self hidlt,Obj.wk,Option.some.injEq,Obj.live.injEq] at hs
    obtain ⟨rfl,rfl,rfl⟩:=hs
    exact ⟨es,hid,by simp,fun q h0 h1=> .inr (by simp)⟩
   ·refine ⟨es0,?_,rfl,fun q _ _=> .inl rfl⟩
    rw [←hs];simp only [H'];rw [List.getElem?_set_ne (fun q=>hi q.symm)]
  have hnil:∀ {a b:List (List AV)},a.length=b.length→(b=[]→a=[]):=by
   intro a b hl hb;subst hb;exact List.length_eq_zero_iff.1 hl
  have hown:∀ b,Owned H' c.ι b→Owned c.H c.ι b:=by
   rintro b ⟨i,nl0,sz0,es0,h1,h2,h3⟩
   obtain ⟨es1,e1,e2,_⟩:=hget _ _ _ _ h1
   exact ⟨i,nl0,sz0,es1,e1,fun q=>h2 ⟨q.1,hnil e2.symm q.2⟩,h3⟩
  let d:Ctx:=⟨c.w,fun b=>F b∨Owned H' c.ι b,c.ι,c.K,H'⟩
  have hHas:∀ i,Has c i→Has d i:=by
   rintro i ⟨h1,h2⟩
   refine ⟨by simpa [d,H'] using h1,fun e=>?_⟩
   by_cases hi:i=id
   ·subst hi;simp [d,H',hidlt,Obj.wk] at e
   ·refine h2 ?_
    rw [←e];simp only [d,H'];rw [List.getElem?_set_ne (fun q=>hi q.symm)]
  have hsp:∀ j o,d.H[j]?=some o→o.sp=true→c.H[j]?=some o∧d.ι j=c.ι j∧d.w.heap[c.ι j]?=c.w.heap[c.ι j]?:=by
   intro j o h1 h2
   refine ⟨?_,rfl,rfl⟩
   by_cases hj:j=id
   ·subst hj;simp [d,H',hidlt,Obj.wk] at h1;subst h1;simp [Obj.sp] at h2
   ·rw [←h1];simp only [d,H'];rw [List.getElem?_set_ne (fun q=>hj q.symm)]
  have hV:∀ x v,V c x v→V d x v:=by
   intro x v hv
   refine V.mono ?_ ?_ ?_ ?_ (fun i b hs=>hs.keep hHas hsp) hv
   ·intro b hnb _
    refine ⟨rfl,?_⟩
    rintro (hf | ho)
    ·exact hnb ((h.hO b).2 (.inl hf))
    ·exact hnb ((h.hO b).2 (.inr (hown b ho)))
   ·rintro i e o l v ⟨g1,g2,g3⟩
    refine ⟨hHas i g1,g2,fun nl0 sz0 es0 hs=>?_⟩
    obtain ⟨es1,e1,e2,_⟩:=hget _ _ _ _ hs
    obtain ⟨k1,k2⟩:=g3 nl0 sz0 es1 e1
    refine ⟨by omega,fun he=>?_⟩
    obtain ⟨k3,k4⟩:=k2 (by omega)
    refine ⟨k3,?_⟩
    rcases k4 with ⟨q1,q2,q3⟩ | ⟨q1,q2⟩
    ·exact .inl ⟨q1,hnil e2.symm q2,q3⟩
    ·exact .inr ⟨fun q=>q1 ⟨q.1,hnil e2 q.2⟩,q2⟩
   ·rintro i e o l v ⟨g1,q,g2,g3,g4⟩
    refine ⟨hHas i g1,q,g2,g3,fun nl0 sz0 es0 hs=>?_⟩
    obtain ⟨es1,e1,e2,_⟩:=hget _ _ _ _ hs
    obtain ⟨k1,k2⟩:=g4 nl0 sz0 es1 e1
    exact ⟨by omega,fun he=>k2 (by omega)⟩
   ·rintro i e o l k v ⟨g1,q,g2,g3,g4⟩
    refine ⟨hHas i g1,q,g2,g3,fun nl0 sz0 es0 hs=>?_⟩
    obtain ⟨es1,e1,e2,_⟩:=hget _ _ _ _ hs
    obtain ⟨k1,k2⟩:=g4 nl0 sz0 es1 e1
    exact ⟨by omega,fun he=>k2 (by omega)⟩
  have hfut:∀ n,Fut n c d:=fun n=>⟨Nat.le_refl _,fun _ _ _ _=>rfl,fun x v _ hv=>hV x v hv,fun b ho=> .inl (hown b ho),fun hn=>by simpa [d,H'] using hn,Same.refl _,fun b hb=> .inl (ownedS_keep hsp hb)⟩
  refine ⟨d,rfl,rfl,⟨⟨?_,?_⟩,fun b=>Iff.rfl,h.hF,fun b ho=>h.disj b (hown b ho),h.x.keep hsp hV⟩,hV,hfut⟩
  ·intro i nl0 sz0 es0 hs hbk
   obtain ⟨es1,hs',e2,e3⟩:=hget _ _ _ _ hs
   obtain ⟨cells,elem,g1,g2,g3,g4,g5⟩:=h.hr.back i nl0 sz0 es1 hs' (fun q=>hbk ⟨q.1,hnil e2.symm q.2⟩)
   refine ⟨cells,elem,g1,g2,by rw [←e2];exact g3,.inr ⟨i,nl0,sz0,es0,hs,hbk,rfl⟩,fun q hq=>?_⟩
   obtain ⟨p1,p2⟩:=g5 q (by omega)
   rcases e3 q hq (by omega) with e | e
   ·refine ⟨by rw [e];exact p1,fun j hj=>?_⟩
    obtain ⟨u,hu,hv⟩:=p2 j (by rw [e] at hj;exact hj)
    exact ⟨u,hu,by simp only [e];exact hV _ _ hv⟩
   ·refine ⟨by rw [e];simpa using p1,fun j hj=>?_⟩
    obtain ⟨u,hu,hv⟩:=p2 j (by rw [e] at hj;simpa using hj)
    exact ⟨u,hu,by simp only [e,List.getElem_map];exact wk1_V (hV _ _ hv)⟩
  ·intro i i' _ _ _ _ _ _ h1 h2 h3 h4 he hlt
   obtain ⟨_,e1,e2,_⟩:=hget _ _ _ _ h1
   obtain ⟨_,e3,e4,_⟩:=hget _ _ _ _ h3
   obtain ⟨k1,k2,k3,k4⟩:=h.hr.inj i i' _ _ _ _ _ _ e1 (fun q=>h2 ⟨q.1,hnil e2.symm q.2⟩) e3 (fun q=>h4 ⟨q.1,hnil e4.symm q.2⟩) he hlt
   exact ⟨k1,k2,k3,by omega⟩
theorem wkH_sound (h:SR F c) (x:AV):∃ d:Ctx,d.w=c.w∧d.H=wkH c.H x∧SR F d∧(∀ x v,V c x v→V d x v)∧∀ n,Fut n c d:=by
 have no:∃ d:Ctx,d.w=c.w∧d.H=c.H∧SR F d∧(∀ x v,V c x v→V d x v)∧∀ n,Fut n c d:=⟨c,rfl,rfl,h,fun _ _ hv=>hv,fun n=>Fut.refl n c⟩
 unfold wkH
 split
 ·split
  ·rename_i hid;exact obj_wk_sound h _ hid
  ·exact no
 ·split
  ·rename_i hid;exact obj_wk_sound h _ hid
  ·exact no
 ·exact no
theorem wks_sound (hG:∀ g,AV.bels 0 (G g)=true) {a:Act}:∀ (l:List Nat) {c:Ctx} {s:St},FR lo F G c s a→∃ d:Ctx,d.w=c.w∧FR lo F G d (wks l s) a∧∀ n,Fut n c d
 | [],c,s,h=>⟨c,rfl,h,fun n=>Fut.refl n c⟩
 | t::ts,c,s,h=>by
  obtain ⟨d,d1,d2,d3,d4,d5⟩:=wkH_sound h.sr (s.tmps.getD t .any)
  have h2:FR lo F G d ⟨s.tmps.set t (s.tmps.getD t .any).wk,wkH s.H (s.tmps.getD t .any)⟩ a:=by
   refine ⟨d3,TR.set (h.tr.went d4) t (fun hj=>?_),by rw [d2,h.hH],h.df.fut h.sr (d5 0),h.gl.fut hG (d5 0)⟩
   have hi:t < s.tmps.length:=by have:=h.tr.1;omega
   have e:s.tmps.getD t .any=s.tmps[t]:=by simp [List.getD,hi]
   rw [e]
   exact wk_V (d4 _ _ (h.tr.2 t hi hj))
  obtain ⟨e,e1,e2,e3⟩:=wks_sound hG ts h2
  exact ⟨e,by rw [e1,d1],e2,fun n=>(d5 n).trans (e3 n)⟩
theorem mark_sound (h:SR F c) {id:Nat} {nl fl:Fl} {sz:Nat} {es:List (List AV)} (hid:c.H[id]?=some (.live nl sz es)) (hn:nl= .nil↔fl= .nil)
 (ho:nl.old=true→fl.old=true∨∀ j nl0 sz0 es0,id < j→c.H[j]?=some (.live nl0 sz0 es0)→nl0.kid=false) (hk:nl.kid=true→fl.kid=true):
 ∃ d:Ctx,d.w=c.w∧d.H=c.H.set id (.live fl sz es)∧Went F c d:=by
 obtain ⟨d,d1,d2,d3,_⟩:=flag_sound h hid hn (fun j nl0 sz0 es0 hj hs hbk0 he hbk=>by
  refine ⟨fun hlt=>?_,fun hlt=>?_⟩
  ·obtain ⟨k1,k2,_⟩:=h.hr.inj id j _ _ _ _ _ _ hid hbk hs hbk0 he.symm hlt
   rcases ho k1 with q | q
   ·exact q
   ·rw [q _ _ _ _ hlt hs] at k2;simp at k2
  ·obtain ⟨k1,k2,_⟩:=h.hr.inj j id _ _ _ _ _ _ hs hbk0 hid hbk he hlt
   exact hk k2)
 exact ⟨d,d1,d2,d3⟩
theorem noKid_get:∀ {l:List Obj},noKid l=true→∀ {i:Nat} {nl:Fl} {sz:Nat} {es:List (List AV)},l[i]?=some (Obj.live nl sz es)→nl.kid=false
 | [],_,i,nl,sz,es,h=>by simp at h
 | o::r,hn,i,nl,sz,es,h=>by
  cases i with
  | zero=>
   simp at h;subst h
   simp [noKid] at hn
   exact hn.1
  | succ i=>
   simp at h
   refine noKid_get (l:=r) ?_ h
   cases o<;>simp [noKid] at hn
   ·exact hn.2
   all_goals exact hn
theorem cut_sound (hG:∀ g,AV.bels 0 (G g)=true) {base:Nat} {s:St} {a:Act} (h:FR lo F G c s a) {t id ext len sz:Nat} {es:List (List AV)} (hb:base≤id) (hlast:id+1=c.H.length) (hid:c.H[id]?=some (.live .norm sz es))
 (hext:ext=es.length) (hle:len≤ext) (hti:t < s.tmps.length) (hte:s.tmps[t]= .own id ext 0 len) (hbt:AV.bels id (s.tmps.set t .any)=true) (hbo:objsBel id (c.H.take id)=true) (hbe:AV.belss id es=true):
 ∃ d:Ctx,d.w=c.w∧FR lo F G d ⟨s.tmps.set t (.own id len 0 len),s.H.set id (.live .norm sz (es.take len))⟩ a∧Fut base c d:=by
 have hidlt:=lt_of_some hid
 let H':=c.H.set id (.live .norm sz (es.take len))
 let d:Ctx:=⟨c.w,c.O,c.ι,c.K,H'⟩
 have hne:∀ i,i≠id→H'[i]?=c.H[i]?:=fun i hi=>by simp only [H'];rw [List.getElem?_set_ne (fun q=>hi q.symm)]
 have hself:H'[id]?=some (.live .norm sz (es.take len)):=by simp only [H'];rw [List.getElem?_set_self hidlt]
 have hHas:∀ i,Has c i→Has d i:=by
  rintro i ⟨h1,h2⟩
  refine ⟨by simpa [d,H'] using h1,fun e=>?_⟩
  by_cases hi:i=id
  ·subst hi;rw [show d.H=H' from rfl,hself] at e;simp at e
  ·rw [show d.H=H' from rfl,hne i hi] at e;exact h2 e
 have hown:∀ b,Owned H' c.ι b↔Owned c.H c.ι b:=by
  intro b
  constructor
  ·rintro ⟨i,nl,sz0,es0,h1,h2,h3⟩
   by_cases hi:i=id
   ·subst hi;exact ⟨i,.norm,sz,es,hid,by simp,h3⟩
   ·exact ⟨i,nl,sz0,es0,by rw [←hne i hi];exact h1,h2,h3⟩
  ·rintro ⟨i,nl,sz0,es0,h1,h2,h3⟩
   by_cases hi:i=id
   ·subst hi;exact ⟨i,.norm,sz,es.take len,hself,by simp,h3⟩
   ·exact ⟨i,nl,sz0,es0,by rw [hne i hi];exact h1,h2,h3⟩
 have hsp:∀ j o,d.H[j]?=some o→o.sp=true→c.H[j]?=some o∧d.ι j=c.ι j∧d.w.heap[c.ι j]?=c.w.heap[c.ι j]?:=by
  intro j o h1 h2
  refine ⟨?_,rfl,rfl⟩
  by_cases hj:j=id
  ·subst hj;rw [show d.H=H' from rfl,hself] at h1;injection h1 with h1;subst h1;simp [Obj.sp] at h2
  ·rw [←hne j hj];exact h1
 have hV:∀ x v,x.bel id=true→V c x v→V d x v:=by
  intro x v hx hv
  refine V.monoB id ?_ ?_ ?_ ?_ (fun i b _ hs=>hs.keep hHas hsp) hv hx
  ·intro b hnb _;exact ⟨rfl,hnb⟩
  ·rintro i e o l v hi ⟨g1,g2,g3⟩
   exact ⟨hHas i g1,g2,fun nl sz0 es0 hs=>g3 nl sz0 es0 (by rw [←hne i (by omega)];exact hs)⟩
  ·rintro i e o l v hi ⟨g1,q,g2,g3,g4⟩
   exact ⟨hHas i g1,q,g2,g3,fun nl sz0 es0 hs=>g4 nl sz0 es0 (by rw [←hne i (by omega)];exact hs)⟩
  ·rintro i e o l k v hi ⟨g1,q,g2,g3,g4⟩
   exact ⟨hHas i g1,q,g2,g3,fun nl sz0 es0 hs=>g4 nl sz0 es0 (by rw [←hne i (by omega)];exact hs)⟩
 have hfut:Fut base c d:=⟨Nat.le_refl _,fun _ _ _ _=>rfl,fun x v hx hv=>hV x v (bel_mono hb x hx) hv,fun b ho=> .inl ((hown b).1 ho),fun hn=>by simpa [d,H'] using hn,Same.refl _,fun b hb=> .inl (ownedS_keep hsp hb)⟩
 have hSR:SR F d:=by
  refine ⟨⟨?_,?_⟩,fun b=>?_,h.sr.hF,fun b ho=>h.sr.disj b ((hown b).1 ho),h.sr.x.keepB hsp fun i o wo h1 h2 hs=>hs.monoB (m:=id) ?_ hV⟩
  rotate_left 3
  ·have hilt:i < id:=by
    have h3:=lt_of_some h1
    rw [show d.H=H' from rfl] at h3
    simp only [H',List.length_set] at h3
    have:i≠id:=by rintro rfl;rw [show d.H=H' from rfl,hself] at h1;injection h1 with h1;subst h1;simp [Obj.sp] at h2
    omega
   exact objsBel_get hbo i _ (by rw [List.getElem?_take,if_pos hilt,←hne i (by omega)];exact h1)
  ·intro i nl0 sz0 es0 hs hbk
   by_cases hi:i=id
   ·subst hi
    rw [show d.H=H' from rfl,hself] at hs
    injection hs with hs;injection hs with q1 q2 q3
    subst q1;subst q2;subst q3
    obtain ⟨cells,elem,g1,g2,g3,g4,g5⟩:=h.sr.hr.back i .norm sz es hid (by simp)
    refine ⟨cells,elem,g1,g2,Nat.le_trans (by simp [List.length_take];omega) g3,g4,fun q hq=>?_⟩
    have hq':q < es.length:=by simp [List.length_take] at hq;omega
    have heq:(es.take len)[q]=es[q]:=by simp
    refine ⟨by rw [heq];exact (g5 q hq').1,fun j hj=>?_⟩
    have hj':j < es[q].length:=by rw [heq] at hj;exact hj
    obtain ⟨u,hu,hv⟩:=(g5 q hq').2 j hj'
    refine ⟨u,hu,?_⟩
    have e2:(es.take len)[q][j]=es[q][j]:=by simp only [heq]
    rw [e2]
    exact hV _ _ (bels_get (belss_get hbe q hq') j hj') hv
   ·have hs':c.H[i]?=some (.live nl0 sz0 es0):=by rw [←hne i hi];exact hs
    obtain ⟨cells,elem,g1,g2,g3,g4,g5⟩:=h.sr.hr.back i nl0 sz0 es0 hs' hbk
    have hilt:i < id:=by have:=lt_of_some hs';omega
    have hob:=objsBel_get hbo i _ (by rw [List.getElem?_take,if_pos hilt];exact hs')
    simp only [Obj.bel] at hob
    refine ⟨cells,elem,g1,g2,g3,g4,fun q hq=>⟨(g5 q hq).1,fun j hj=>?_⟩⟩
    obtain ⟨u,hu,hv⟩:=(g5 q hq).2 j hj
    exact ⟨u,hu,hV _ _ (bels_get (belss_get hob q hq) j hj) hv⟩
  ·intro i i' nl0 sz0 es0 nl1 sz1 es1 h1 h2 h3 h4 he hlt
   have hi':i≠id:=by
    intro e
    have:=lt_of_some h3
    rw [show d.H=H' from rfl] at this
    simp only [H',List.length_set] at this
    omega
   have h1':c.H[i]?=some (.live nl0 sz0 es0):=by rw [←hne i hi'];exact h1
   by_cases hi:i'=id
   ·subst hi
    rw [show d.H=H' from rfl,hself] at h3
    injection h3 with h3;injection h3 with q1 q2 q3
    subst q1;subst q2;subst q3
    have:=h.sr.hr.inj i i' _ _ _ _ _ _ h1' h2 hid (by simp) he hlt
    obtain ⟨p1,p2,_⟩:=this
    simp [Fl.kid] at p2
   ·exact h.sr.hr.inj i i' _ _ _ _ _ _ h1' h2 (by rw [←hne i' hi];exact h3) h4 he hlt
  ·exact (h.sr.hO b).trans ⟨fun q=>q.imp (fun z=>z) (hown b).2,fun q=>q.imp (fun z=>z) (hown b).1⟩
 refine ⟨d,rfl,⟨hSR,⟨by simpa using h.tr.1,fun i hi hj=>?_⟩,by simp [d,H',h.hH],h.df,h.gl.fut hG hfut⟩,hfut⟩
 rw [List.getElem_set]
 split
 ·rename_i e
  subst e
  have hv:=h.tr.2 t hti hj
  rw [hte] at hv
  generalize a.tmps[t]=tv at hv
  cases hv with
  | own _ _ _ _ _ how=>
   obtain ⟨q1,q2,how⟩:=how
   refine .own _ _ _ _ _ ⟨hHas _ q1,q2,fun nl0 sz0 es0 hs=>?_⟩
   rw [show d.H=H' from rfl,hself] at hs
   injection hs with hs;injection hs with r1 r2 r3
   subst r1;subst r2;subst r3
   obtain ⟨p1,how⟩:=how _ _ _ hid
   obtain ⟨p2,how⟩:=how hext
   refine ⟨by simp [List.length_take];omega,fun _=>⟨by omega,?_⟩⟩
   rcases how with ⟨z1,_⟩ | ⟨_,cap,z1,z2⟩
   ·simp at z1
   ·exact .inr ⟨by simp,cap,z1,z2⟩
 ·rename_i e
  have hilt:i < s.tmps.length:=by simpa using hi
  have hbel:=bels_get hbt i (by simpa using hilt)
  rw [List.getElem_set_ne e] at hbel
  exact hV _ _ hbel (h.tr.2 i hilt hj)
theorem frz1_at {j e o l:Nat} {H H1:List Obj} {r:AV} (h:frz1 0 ⟨[.own j e o l],H⟩=some ⟨[r],H1⟩):H1=H.set j .dead∧r.cells=[r]:=by
 unfold frz1 at h
 simp only [List.getD_cons_zero] at h
 split at h
 ·split at h
  ·simp only [Option.some.injEq,St.mk.injEq,List.set_cons_zero,List.cons.injEq,and_true] at h
   obtain ⟨rfl,rfl⟩:=h
   exact ⟨rfl,rfl⟩
  ·simp at h
 ·simp at h
theorem ghost1_sound (hG:∀ g,AV.bels 0 (G g)=true) {base:Nat} {s s':St} {a:Act} {g:GA} (h:FR lo F G c s a) (hf:ghost1 base s g=some s'):
 ∃ d:Ctx,d.w=c.w∧FR lo F G d s' a∧Fut base c d:=by
 cases g with
 | sh t=>
  simp only [ghost1] at hf
  split at hf
  case h_2=>injection hf with hf;subst hf;exact ⟨c,rfl,h,Fut.refl _ _⟩
  rename_i id ext off len hslot
  split at hf
  case h_2=>injection hf with hf;subst hf;exact ⟨c,rfl,h,Fut.refl _ _⟩
  rename_i sz x l hl
  obtain ⟨nl,hid⟩:=getLive_some hl
  have hm:mark Fl.sh s.H id=s.H.set id (.live nl.sh sz (x::l)):=by simp [mark,hid]
  injection hf with hf;subst hf
  rw [←h.hH] at hid
  obtain ⟨d,d1,d2,d3⟩:=mark_sound h.sr hid (fl:=nl.sh) (by cases nl<;>simp [Fl.sh]) (fun q=> .inl (by cases nl<;>simp [Fl.sh,Fl.old] at q ⊢)) (fun q=>by cases nl<;>simp [Fl.sh,Fl.kid] at q ⊢)
  exact ⟨d,d1,FR.went hG h d3 (by rw [d2,hm,h.hH]) rfl,d3.2.2 base⟩
 | res t=>
  simp only [ghost1] at hf
  split at hf
  case h_2=>injection hf with hf;subst hf;exact ⟨c,rfl,h,Fut.refl _ _⟩
  rename_i id ext off len hslot
  split at hf
  case isFalse=>injection hf with hf;subst hf;exact ⟨c,rfl,h,Fut.refl _ _⟩
  rename_i hno
  injection hf with hf;subst hf
  cases hid:s.H[id]? with
  | none=>
   have hm:mark Fl.res s.H id=s.H:=by simp [mark,hid]
   exact ⟨c,rfl,⟨h.sr,h.tr,by rw [h.hH,hm],h.df,h.gl⟩,Fut.refl _ _⟩
  | some o=>
  cases o with
  | dead=>
   have hm:mark Fl.res s.H id=s.H:=by simp [mark,hid]
   exact ⟨c,rfl,⟨h.sr,h.tr,by rw [h.hH,hm],h.df,h.gl⟩,Fut.refl _ _⟩
  | rsv=>
   have hm:mark Fl.res s.H id=s.H:=by simp [mark,hid]
   exact ⟨c,rfl,⟨h.sr,h.tr,by rw [h.hH,hm],h.df,h.gl⟩,Fut.refl _ _⟩
  | mp _=>
   have hm:mark Fl.res s.H id=s.H:=by simp [mark,hid]
   exact ⟨c,rfl,⟨h.sr,h.tr,by rw [h.hH,hm],h.df,h.gl⟩,Fut.refl _ _⟩
  | it _ _=>
   have hm:mark Fl.res s.H id=s.H:=by simp [mark,hid]
   exact ⟨c,rfl,⟨h.sr,h.tr,by rw [h.hH,hm],h.df,h.gl⟩,Fut.refl _ _⟩
  | lp _ _ _ _ _=>
   have hm:mark Fl.res s.H id=s.H:=by simp [mark,hid]
   exact ⟨c,rfl,⟨h.sr,h.tr,by rw [h.hH,hm],h.df,h.gl⟩,Fut.refl _ _⟩
  | live nl sz es=>
   have hm:mark Fl.res s.H id=s.H.set id (.live nl.res sz es):=by simp [mark,hid]
   rw [←h.hH] at hid hno
   obtain ⟨d,d1,d2,d3⟩:=mark_sound h.sr hid (fl:=nl.res) (by cases nl<;>simp [Fl.res])
    (fun _=> .inr fun j nl0 sz0 es0 hlt hs=>noKid_get hno (i:=j - (id+1)) (by rw [List.getElem?_drop];rw [show id+1+(j - (id+1))=j by omega];exact hs))
    (fun q=>by cases nl<;>simp [Fl.res,Fl.kid] at q ⊢)
   exact ⟨d,d1,FR.went hG h d3 (by rw [d2,hm,h.hH]) rfl,d3.2.2 base⟩
 | wk l=>
  simp only [ghost1,Option.some.injEq] at hf
  subst hf
  obtain ⟨d,d1,d2,d3⟩:=wks_sound hG l h
  exact ⟨d,d1,d2,d3 base⟩
 | kill l=>
  simp only [ghost1,Option.some.injEq] at hf
  subst hf
  exact ⟨c,rfl,⟨h.sr,kills_TR l h.tr,h.hH,h.df,h.gl⟩,Fut.refl _ _⟩
 | trunc n=>
  simp only [ghost1] at hf
  split at hf
  case isFalse=>injection hf with hf;subst hf;exact ⟨c,rfl,h,Fut.refl _ _⟩
  rename_i hc
  simp only [Bool.and_eq_true] at hc
  injection hf with hf;subst hf
  obtain ⟨d,d1,d2,d3,d4,d5⟩:=trunc_sound h.sr (base+n) (by rw [h.hH];exact hc.2.2)
  refine ⟨d,d1,⟨d3,⟨h.tr.1,fun i hi hj=>d4 _ _ (bels_get hc.2.1 i hi) (h.tr.2 i hi hj)⟩,by rw [d2,h.hH],h.df.fut h.sr (d5 0 (Nat.zero_le _)),h.gl.fut hG (d5 0 (Nat.zero_le _))⟩,d5 base (by omega)⟩
 | frz t=>
  simp only [ghost1] at hf
  split at hf
  ·rename_i s1 hs1
   injection hf with hf;subst hf
   obtain ⟨d,d1,d2,d3,_⟩:=frz_sound hG h hs1
   exact ⟨d,d1,d2,d3 base⟩
  ·injection hf with hf;subst hf;exact ⟨c,rfl,h,Fut.refl _ _⟩
 | prom t sz=>
  simp only [ghost1] at hf
  split at hf
  case h_2=>injection hf with hf;subst hf;exact ⟨c,rfl,h,Fut.refl _ _⟩
  rename_i hslot
  injection hf with hf;subst hf
  obtain ⟨hti,hte⟩:=getD_some hslot (by simp)
  obtain ⟨d,d1,d2,d3,d4,d5,d6,d7⟩:=nul_sound (G:=G) h.sr sz
  refine ⟨d,d1,⟨d3,TR.set (h.tr.went d4) t (fun hj=>?_),by rw [d2,h.hH],h.df.fut h.sr (d5 0),d7 h.gl⟩,d5 base⟩
  have hv:=h.tr.2 t hti hj
  rw [hte] at hv
  generalize a.tmps[t]=tv at hv ⊢
  cases hv
  rw [←h.hH];exact d6
 | promf t off sz=>
  simp only [ghost1] at hf
  split at hf
  case h_2=>injection hf with hf;subst hf;exact ⟨c,rfl,h,Fut.refl _ _⟩
  rename_i id ext e o hslot
  split at hf
  case h_2=>injection hf with hf;subst hf;exact ⟨c,rfl,h,Fut.refl _ _⟩
  rename_i hload
  split at hf
  case h_2=>simp at hf
  rename_i H2 hst
  injection hf with hf;subst hf
  obtain ⟨d,d1,d2,d3,d4,d5,d6,d7⟩:=nul_sound (G:=G) h.sr sz
  rw [←h.hH] at hload hst
  unfold loadAt at hload
  simp only at hload
  split at hload
  case h_2=>simp at hload
  rename_i sz0 es hl
  obtain ⟨nl,hid⟩:=getLive_some hl
  split at hload
  case isFalse=>simp at hload
  rename_i hext
  split at hload
  case h_2=>simp at hload
  rename_i cs hcs
  obtain ⟨he,rfl⟩:=List.getElem?_eq_some_iff.1 hcs
  simp only [part,Bool.false_eq_true,if_false] at hload
  obtain ⟨hoff,hnil⟩:=List.getElem?_eq_some_iff.1 hload
  have hidlt:=lt_of_some hid
  have hid':d.H[id]?=some (.live nl sz0 es):=by rw [d2,List.getElem?_append_left hidlt];exact hid
  have hbk:¬(nl= .nil∧es=[]):=by rintro ⟨_,rfl⟩;simp at he
  obtain ⟨cells,elem,b1,b2,b3,b4,b5⟩:=d3.hr.back id nl sz0 es hid' hbk
  have hH2f:H2=(c.H++[Obj.live .nil sz []]).set id (Obj.live nl sz0 (es.set e (putAt es[e] (o+off) [.own c.H.length 0 0 0])))∧nl.free=true:=by
   unfold storeAt at hst
   simp only at hst
   have hl2:getLive (c.H++[Obj.live .nil sz []]) id=some (sz0,es):=by rw [←d2];simp [getLive,hid']
   rw [hl2] at hst
   simp only at hst
   split at hst
   case isFalse=>simp at hst
   rename_i hcc
   rw [hcs] at hst
   simp only [Option.some.injEq] at hst
   refine ⟨?_,by have hn2:nlAt (c.H++[Obj.live .nil sz []]) id=nl:=by rw [←d2];simp [nlAt,hid']
                 rw [hn2] at hcc;exact hcc.2.2.2.2⟩
   rw [←hst]
   have hn2:nlAt (c.H++[Obj.live .nil sz []]) id=nl:=by rw [←d2];simp [nlAt,hid']
   rw [hn2]
   rfl
  obtain ⟨hH2,hfree⟩:=hH2f
  obtain ⟨q1,q2⟩:=b5 e he
  have hput:∀ j (hj:j < (putAt es[e] (o+off) [AV.own c.H.length 0 0 0]).length),(putAt es[e] (o+off) [AV.own c.H.length 0 0 0])[j]=if j=o+off then .own c.H.length 0 0 0 else es[e][j]'(by rw [putAt_length] at hj;exact hj):=by
   intro j hj
   rw [putAt_get _ _ _ _ hj (by simp;omega)]
   by_cases hjo:j=o+off
   ·subst hjo;rw [dif_pos (by simp),if_pos rfl];simp
   ·rw [dif_neg (by simp;omega),if_neg hjo]
  obtain ⟨dd,e1,e2,e3,e4,e5,_,_⟩:=upd d3 id (d.ι id) (d.K id) nl sz0 (es.set e (putAt es[e] (o+off) [.own c.H.length 0 0 0])) cells elem d.w H2
   (by rw [hH2,d2];simp) (by rw [hH2,List.getElem?_set_self (by simp;omega)]) (fun j hj=>by left;rw [hH2,List.getElem?_set_ne (fun q=>hj q.symm),d2]) (by rw [hid'];simp) (ns_of hid')
   (fun nl0 sz1 es0 h0=>by
    rw [hid'] at h0;injection h0 with h0;injection h0 with r1 r2 r3
    subst r1;subst r2;subst r3
    exact ⟨rfl,rfl,by simp,fun _=>⟨hbk,rfl,rfl⟩⟩)
   (by rintro ⟨r1,r2⟩;have:=congrArg List.length r2;simp at this;exact hbk ⟨r1,this⟩)
   (Same.refl _) (Nat.le_refl _) (fun _ _ _=>rfl) b1 (.inr ⟨id,nl,sz0,es,hid',hbk,rfl⟩)
   (fun j nl0 sz1 es1 hj hs0 hbk0 he0=>(alone d3 hid' hbk hfree hj hs0 hbk0 he0).elim) b2 (by simpa using b3) (by
    intro i hi
    simp at hi
    by_cases hie:e=i
    ·subst hie
     simp only [List.getElem_set_self]
     refine ⟨by rw [putAt_length];exact q1,fun j hj=>?_⟩
     have hj':j < es[e].length:=by rw [putAt_length] at hj;exact hj
     obtain ⟨u,hu,hv⟩:=q2 j hj'
     refine ⟨u,hu,?_⟩
     rw [hput j hj]
     by_cases hjo:j=o+off
     ·rw [if_pos hjo]
      subst hjo
      rw [hnil] at hv
      cases hv
      exact d6
     ·rw [if_neg hjo];exact hv
    ·have hg:(es.set e (putAt es[e] (o+off) [AV.own c.H.length 0 0 0]))[i]'(by simp;exact hi)=es[i]:=by rw [List.getElem_set_ne hie]
     obtain ⟨g1,g2⟩:=b5 i hi
     refine ⟨by rw [hg];exact g1,fun j hj=>?_⟩
     have hj2:j < es[i].length:=by rw [hg] at hj;exact hj
     obtain ⟨u,hu,hv⟩:=g2 j hj2
     refine ⟨u,hu,?_⟩
     have:(es.set e (putAt es[e] (o+off) [AV.own c.H.length 0 0 0]))[i][j]'hj=es[i][j]:=by simp only [hg]
     rw [this];exact hv)
  refine ⟨dd,by rw [e1,d1],⟨e3,(h.tr.went d4).went e4,by rw [e2],h.df.fut h.sr ((d5 base).trans (e5 base)),fun g=>e4 _ _ (d7 h.gl g)⟩,(d5 base).trans (e5 base)⟩
 | frzp t=>
  simp only [ghost1] at hf
  split at hf
  ·rename_i s1 hs1
   injection hf with hf;subst hf
   obtain ⟨d,d1,d2,d3⟩:=frzp_sound hG h hs1
   exact ⟨d,d1,d2,d3 base⟩
  ·injection hf with hf;subst hf;exact ⟨c,rfl,h,Fut.refl _ _⟩
 | frzb t off=>
  simp only [ghost1] at hf
  split at hf
  case h_2=>injection hf with hf;subst hf;exact ⟨c,rfl,h,Fut.refl _ _⟩
  rename_i id ext e o hslot
  split at hf
  case h_2=>injection hf with hf;subst hf;exact ⟨c,rfl,h,Fut.refl _ _⟩
  rename_i j ext' off' len' hload
  split at hf
  ·simp at hf
  rename_i hji
  split at hf
  case h_2=>injection hf with hf;subst hf;exact ⟨c,rfl,h,Fut.refl _ _⟩
  rename_i r H1 hfz
  split at hf
  case h_2=>simp at hf
  rename_i H2 hst
  injection hf with hf;subst hf
  have hload0:=hload
  rw [←h.hH] at hload
  unfold loadAt at hload
  simp only at hload
  split at hload
  case h_2=>simp at hload
  rename_i sz0 es hl
  obtain ⟨nl,hid⟩:=getLive_some hl
  split at hload
  case isFalse=>simp at hload
  rename_i hext
  split at hload
  case h_2=>simp at hload
  rename_i cs hcs
  obtain ⟨he,rfl⟩:=List.getElem?_eq_some_iff.1 hcs
  simp only [part,Bool.false_eq_true,if_false] at hload
  obtain ⟨hoff,hcell⟩:=List.getElem?_eq_some_iff.1 hload
  have hidlt:=lt_of_some hid
  have hbk:¬(nl= .nil∧es=[]):=by rintro ⟨_,rfl⟩;simp at he
  obtain ⟨cells,elem,b1,b2,b3,b4,b5⟩:=h.sr.hr.back id nl sz0 es hid hbk
  obtain ⟨u,hu,huv⟩:=(b5 e he).2 (o+off) hoff
  rw [hcell] at huv
  have hfr1:FR lo F G c ⟨[.own j ext' off' len'],s.H⟩ { a with tmps:=#[u] }:=⟨h.sr,⟨rfl,fun i hi hj=>by
   have:i=0:=by simp at hi;exact hi
   subst this;exact huv⟩,h.hH,h.df,h.gl⟩
  obtain ⟨d,d1,d2,d3,d4⟩:=frz_sound hG hfr1 hfz
  have hru:V d r u:=d2.tr.2 0 (by simp) (by simp)
  obtain ⟨hH1,hrc⟩:=frz1_at hfz
  have hid':d.H[id]?=some (.live nl sz0 es):=by
   rw [d2.hH,←hid,h.hH]
   rw [show (⟨[r],H1⟩:St).H=H1 from rfl,hH1,List.getElem?_set_ne hji]
  obtain ⟨cells2,elem2,c1,c2,c3,c4,c5⟩:=d2.sr.hr.back id nl sz0 es hid' hbk
  have hcc:cells2=cells:=by
   rw [d1,d4,b1] at c1
   injection c1 with c1;injection c1 with c1;exact c1.symm
  subst hcc
  have hH2f:H2=d.H.set id (Obj.live nl sz0 (es.set e (putAt es[e] (o+off) [r])))∧nl.free=true:=by
   unfold storeAt at hst
   simp only at hst
   have hl2:getLive H1 id=some (sz0,es):=by rw [show H1=d.H from d2.hH.symm];simp [getLive,hid']
   rw [hl2] at hst
   simp only at hst
   split at hst
   case isFalse=>simp at hst
   rename_i hcc
   rw [hcs] at hst
   simp only [Option.some.injEq] at hst
   have hn2:nlAt H1 id=nl:=by rw [show H1=d.H from d2.hH.symm];simp [nlAt,hid']
   rw [hn2] at hst hcc
   rw [hrc] at hst
   exact ⟨by rw [←hst,show H1=d.H from d2.hH.symm],hcc.2.2.2.2⟩
  obtain ⟨hH2,hfree⟩:=hH2f
  have hdlt:id < d.H.length:=lt_of_some hid'
  have hput:∀ q (hq:q < (putAt es[e] (o+off) [r]).length),(putAt es[e] (o+off) [r])[q]=if q=o+off then r else es[e][q]'(by rw [putAt_length] at hq;exact hq):=by
   intro q hq
   rw [putAt_get _ _ _ _ hq (by simp;omega)]
   by_cases hjo:q=o+off
   ·subst hjo;rw [dif_pos (by simp),if_pos rfl];simp
   ·rw [dif_neg (by simp;omega),if_neg hjo]
  obtain ⟨dd,e1,e2,e3,e4,e5,_,_⟩:=upd d2.sr id (d.ι id) (d.K id) nl sz0 (es.set e (putAt es[e] (o+off) [r])) cells2 elem2 d.w H2
   (by rw [hH2];simp) (by rw [hH2,List.getElem?_set_self hdlt]) (fun q hq=>by left;rw [hH2,List.getElem?_set_ne (fun z=>hq z.symm)]) (by rw [hid'];simp) (ns_of hid')
   (fun nl0 sz1 es0 h0=>by
    rw [hid'] at h0;injection h0 with h0;injection h0 with r1 r2 r3
    subst r1;subst r2;subst r3
    exact ⟨rfl,rfl,by simp,fun _=>⟨hbk,rfl,rfl⟩⟩)
   (by rintro ⟨r1,r2⟩;have:=congrArg List.length r2;simp at this;exact hbk ⟨r1,this⟩)
   (Same.refl _) (Nat.le_refl _) (fun _ _ _=>rfl) c1 (.inr ⟨id,nl,sz0,es,hid',hbk,rfl⟩)
   (fun q nl0 sz1 es1 hj hs0 hbk0 he0=>(alone d2.sr hid' hbk hfree hj hs0 hbk0 he0).elim) c2 (by simpa using c3) (by
    intro i hi
    simp at hi
    by_cases hie:e=i
    ·subst hie
     simp only [List.getElem_set_self]
     refine ⟨by rw [putAt_length];exact (c5 e he).1,fun q hq=>?_⟩
     have hq':q < es[e].length:=by rw [putAt_length] at hq;exact hq
     obtain ⟨u2,hu2,hv⟩:=(c5 e he).2 q hq'
     refine ⟨u2,hu2,?_⟩
     rw [hput q hq]
     by_cases hjo:q=o+off
     ·rw [if_pos hjo]
      subst hjo
      rw [hu] at hu2
      injection hu2 with hu2
      subst hu2
      exact hru
     ·rw [if_neg hjo];exact hv
    ·have hg:(es.set e (putAt es[e] (o+off) [r]))[i]'(by simp;exact hi)=es[i]:=by rw [List.getElem_set_ne hie]
     obtain ⟨g1,g2⟩:=c5 i hi
     refine ⟨by rw [hg];exact g1,fun q hq=>?_⟩
     have hj2:q < es[i].length:=by rw [hg] at hq;exact hq
     obtain ⟨u2,hu2,hv⟩:=g2 q hj2
     refine ⟨u2,hu2,?_⟩
     have:(es.set e (putAt es[e] (o+off) [r]))[i][q]'hq=es[i][q]:=by simp only [hg]
     rw [this];exact hv)
  refine ⟨dd,by rw [e1,d1],⟨e3,TR.went (c:=d) ⟨h.tr.1,fun i hi hj=>(d3 c.H.length).vals _ _ ((h.tr.2 i hi hj).bel) (h.tr.2 i hi hj)⟩ e4,by rw [e2],(h.df.fut h.sr (d3 base)).fut d2.sr (e5 base),fun g=>e4 _ _ (d2.gl g)⟩,(d3 base).trans (e5 base)⟩
 | cut t=>
  simp only [ghost1] at hf
  split at hf
  case h_2=>simp at hf
  rename_i id ext len hslot
  split at hf
  case h_2=>simp at hf
  rename_i sz es hid
  split at hf
  case isFalse=>simp at hf
  rename_i hc
  simp only [Bool.and_eq_true,Nat.ble_eq] at hc
  obtain ⟨⟨⟨⟨hb,hlast⟩,hext,hle⟩,hbt,hbo⟩,hbe⟩:=hc
  replace hlast:=Nat.eq_of_beq_eq_true hlast
  replace hext:=Nat.eq_of_beq_eq_true hext
  injection hf with hf;subst hf
  obtain ⟨hti,hte⟩:=getD_some hslot (by simp)
  rw [←h.hH] at hid hlast hbo
  exact cut_sound hG h hb hlast hid hext hle hti hte hbt hbo hbe
theorem ghosts_sound (hG:∀ g,AV.bels 0 (G g)=true) {base:Nat}:∀ (gs:List GA) {c:Ctx} {s s':St} {a:Act},FR lo F G c s a→ghosts base gs s=some s'→
 ∃ d:Ctx,d.w=c.w∧FR lo F G d s' a∧Fut base c d
 | [],c,s,s',a,h,hf=>by simp [ghosts] at hf;subst hf;exact ⟨c,rfl,h,Fut.refl _ _⟩
 | g::gs,c,s,s',a,h,hf=>by
  simp only [ghosts] at hf
  split at hf
  case h_2=>simp at hf
  rename_i s1 h1
  obtain ⟨d,d1,d2,d3⟩:=ghost1_sound hG h h1
  obtain ⟨e,e1,e2,e3⟩:=ghosts_sound hG gs d2 hf
  exact ⟨e,by rw [e1,d1],e2,d3.trans e3⟩
end
end Go.Am
