/- The library's sort, by its contract: what the abstract machine says of it, the program does. Condition: the contract. -/
import Derived.Test.YtafgdbaekppjcaaGreatDoorAmU
import Derived.Sort.Grow
set_option linter.unusedSectionVars false
set_option linter.unusedVariables false
set_option linter.unusedSimpArgs false
namespace Go.Am
structure M4 (P:Program) (f:Nat):Prop where
 nil:∀ (cap:Nat) (p:Option Addr) (w:World),Calls P f #[.slice p 0 cap] w fun e w'=>e= .returned (.tuple #[])/\w'=w
 row:∀ (blk off cap:Nat) (zs:List Int) (w:World),Go.Sort.Holds (Value.int .i64) w blk off zs.toArray->blk < w.heap.size->zs.length < 4611686018427387904->
  Calls P f #[.slice (some ⟨blk,off,none⟩) zs.length cap] w fun e w'=>e= .returned (.tuple #[])/\∃ n os,w'=Go.Sort.grow (Go.Sort.putRow (Value.int .i64) (Go.Sort.ahead w n) blk off (zs.mergeSort fun x y=>decide (x<=y)).toArray) os
theorem tM:∀ {es:List (List AV)} {l:List Int},kV es=some l->es=l.map fun n=>[.int .i64 n]
 | [],l,h=>by simp only [kV,za2] at h;subst h;rfl
 | x::r,l,h=>by
  unfold kV at h;split at h
  ·rename_i e;cases e
  ·rename_i n r' e;injection e with e1 e2
   subst e1;subst e2;split at h
   ·rename_i l' hl;injection h with h;subst h
    rw [tM hl];rfl
   ·cases h
  ·cases h
theorem qu (l:List Int):(sorted l).length=l.length:=List.length_mergeSort l
section
variable {P:Program} {F:Fo} {c:Ctx}
open Go.Sort
theorem Pd (w:World) (n B:Nat) (d:Array Int) (os:Array Go.Obj) (a:Addr) (ha:a.block < w.heap.size):(grow (putRow (Value.int .i64) (Go.Sort.ahead w n) B 0 d) os).frozen? a=w.frozen? a:=by
 unfold World.frozen? grow putRow mapBlock Go.Sort.ahead;simp only;rw [zb5 (by simpa using ha),Array.getElem?_modify];by_cases e:B=a.block
 ·rw [if_pos e]
  cases w.heap[a.block]? with
  | none=>rfl
  | some o=>cases o<;>rfl
 ·rw [if_neg e]
theorem Al (w:World) (n B:Nat) (d:Array Int) (os:Array Go.Obj) (b:Nat) (hb:b < w.heap.size):(grow (putRow (Value.int .i64) (Go.Sort.ahead w n) B 0 d) os).heap[b]?=if B=b then (w.heap[b]?).map (onCells (putCells (Value.int .i64) 0 d)) else w.heap[b]?:=by
 unfold grow putRow mapBlock Go.Sort.ahead;simp only;rw [zb5 (by simpa using hb),Array.getElem?_modify]
theorem EY {f:Nat} (hS:M4 P f) {xs:List AV} {r:AV} {H':List Obj} (h:C2 xs c.H=some (r,H')) (iU:SR F c) {vs:List Value} (hl:vs.length=xs.length)
 (hv:∀ i (hi:i < xs.length) (hj:i < vs.length),V c xs[i] vs[i]):
 Calls P f vs.toArray c.w fun e w'=>∃ v,∃ d:Ctx,e= .returned v/\d.w=w'/\d.H=H'/\SR F d/\cK c.H.length c d/\V d r v:=by
 unfold C2 at h;split at h
 case h_2=>cases h
 rename_i id ext off len;split at h
 case h_2=>cases h
 rename_i nl sz es hid;split at h
 case isFalse=>cases h
 rename_i hc;obtain ⟨hfree,rfl,rfl,rfl,rfl,Lt⟩:=hc;split at h
 case h_2=>cases h
 rename_i l hli;have oR:=tM hli;simp only [za2,za4] at h;obtain ⟨rfl,rfl⟩:=h;obtain ⟨v,rfl⟩:∃ v,vs=[v]:=by
  match vs,hl with
  | [v],_=>exact ⟨v,rfl⟩
 have h0:=hv 0 (by simp) (by simp);simp only [zaF] at h0
 cases h0 with
 | own _ _ _ _ _ ho=>
  obtain ⟨bY,⟨a,cap,hva⟩,lq⟩:=ho;have Bk:es.length=l.length:=by rw [oR];simp
  have uL:((sorted l).map fun n=>[AV.int .i64 n]).length=es.length:=by rw [zaa,qu,Bk]
  obtain ⟨_,Ma⟩:=(lq _ _ _ hid).2 rfl;rcases Ma with ⟨hn1,hn2,UF⟩ | ⟨hbk,cap',UF,hK⟩
  ·subst UF;subst hn2;have vJ:l=[]:=by cases l with | nil=>rfl | cons a l=>simp at Bk
   refine (hS.nil 0 none c.w).mono ?_;rintro e w' ⟨rfl,rfl⟩;refine ⟨_,c,rfl,rfl,?_,iU,cK.refl _ _,.aY [] #[] rfl fun i hi=>by simp at hi⟩;subst vJ;apply zbL
   intro j;rw [List.getElem?_set];split
   ·rename_i e;subst e;rw [hid,if_pos (bn hid)];simp [sorted]
   ·rfl
  ·subst UF;obtain ⟨cells,elem,g1,g2,g3,g4,g5⟩:=iU.hr.back id nl 1 es hid hbk;have hB:c.ι id < c.w.heap.size:=(zaX.1 g1).1;have hcell:∀ j (hj:j < l.length),cells[j]?=some (.int .i64 l[j]):=fun j hj=>by
    obtain ⟨q1,q2⟩:=g5 j (by omega);obtain ⟨u,q3,q4⟩:=q2 0 (by omega);have e:es[j]'(by omega)=[AV.int .i64 l[j]]:=by simp [oR]
    rw [zbv,zb7] at q3;have e2:(es[j]'(by omega))[0]'(by omega)=AV.int .i64 l[j]:=by simp [e]
    rw [e2] at q4
    cases q4;exact q3
   have hH:Holds (Value.int .i64) c.w (c.ι id) 0 l.toArray:=fun j hj=>by
    have hj:j < l.length:=by simpa using hj
    refine ⟨?_,?_⟩
    ·unfold World.cell?;simp only [g1,zaD,hcell j hj];simp [getElem!_pos,hj]
    ·unfold World.frozen?;simp only [g1];simp
   have o9:=hS.row (c.ι id) 0 cap' l c.w hH hB (by omega);rw [show ([Value.slice (some ⟨c.ι id,0*1,none⟩) es.length cap']:List Value).toArray=#[Value.slice (some ⟨c.ι id,0,none⟩) l.length cap'] by rw [Bk]];refine o9.mono ?_;rintro e w' ⟨rfl,n,os,rfl⟩;have hsz:(sorted l).toArray.size=l.length:=by simp [qu]
   obtain ⟨d,h1,h2,h3,h4,h5,_⟩:=o7 iU id (c.ι id) (c.K id) nl 1 ((sorted l).map fun n=>[.int .i64 n]) (putCells (Value.int .i64) 0 (sorted l).toArray cells) elem
    (grow (putRow (Value.int .i64) (Go.Sort.ahead c.w n) (c.ι id) 0 (sorted l).toArray) os) (c.H.set id (.live nl 1 ((sorted l).map fun n=>[.int .i64 n])))
    (by simp) (by rw [zaG (bn hid)]) (fun j hj=> .inl (za6 (fun e=>hj e.symm))) (by rw [hid];simp) (wg hid)
    (fun bL br bt h=>by
     rw [hid] at h;simp only [za2,Obj.live.injEq] at h;obtain ⟨rfl,rfl,rfl⟩:=h;exact ⟨rfl,rfl,by omega,fun _=>⟨hbk,rfl,rfl⟩⟩)
    (fun hh=>hbk ⟨hh.1,zbA (by rw [<-uL,hh.2];rfl)⟩)
    ⟨rfl,rfl,rfl,fun a ha=>Pd c.w n _ _ os a ha,by simp [grow,putRow,mapBlock,Go.Sort.ahead]⟩
    (by simp [grow,putRow,mapBlock,Go.Sort.ahead])
    (fun b hb hne=>by rw [Al c.w n _ _ os b hb,if_neg (fun e=>hne e.symm)])
    (by rw [Al c.w n _ _ os _ hB,if_pos rfl,g1];rfl)
    (.inr ⟨id,nl,1,es,hid,hbk,rfl⟩)
    (fun j bL br bt hj hs hb he=>(alone iU hid hbk hfree hj hs hb he).elim)
    (by simp [putCells,g2]) (by rw [uL];exact g3)
    (fun i hi=>by
     have hi':i < (sorted l).length:=by simpa using hi
     have hi2:i < l.length:=by rw [qu] at hi';exact hi'
     have hic:=(zaX.1 (hcell i hi2)).1;refine ⟨by simp,fun j hj=>?_⟩;have hj0:j=0:=by simp at hj;omega
     subst hj0;refine ⟨.int .i64 (sorted l)[i],?_,?_⟩
     ·simp only [putCells,zbv,zb7,zaO,zaD,true_and,Nat.sub_zero];rw [Array.getElem?_mapIdx,hcell i hi2];simp only [zaN];rw [if_pos (by rw [hsz];exact hi2)];simp [getElem!_pos,hi']
     ·simp only [zay,zaF];exact .int _ _)
   exact ⟨_,d,rfl,h1,h2,h3,h5 _,.aY [] #[] rfl fun i hi=>by simp at hi⟩
structure T4 (P:Program) (f:Nat):Prop where
 nil:∀ (cap:Nat) (a:Option Addr) (w:World),Calls P f #[.slice a 0 cap] w fun e w'=>e= .returned (.slice a 0 cap)/\w'=w
 row:∀ (blk off cap:Nat) (zs:List Int) (w:World),Holds (Value.int .i64) w blk off zs.toArray->zs.length<=9223372036854775807->zs.length<=cap->
  Calls P f #[.slice (some ⟨blk,off,none⟩) zs.length cap] w fun e w'=>e= .returned (.slice (some ⟨blk,off,none⟩) (Go.Lib.compact zs).length cap)/\
   ∃ q,w'=putRow (Value.int .i64) (Go.Sort.ahead w q) blk off (Go.Lib.compact zs++List.replicate (zs.length - (Go.Lib.compact zs).length) 0).toArray
theorem GP (l:List Int):(Go.Lib.compact l).length<=l.length:=by
 unfold Go.Lib.compact Go.Lib.compactUpTo;rw [zaa];exact zaI (List.length_filter_le _ _) (by simp)
theorem GQ {l:List Int} (h:l≠[]):Go.Lib.compact l≠[]:=by
 unfold Go.Lib.compact Go.Lib.compactUpTo;intro e;have e:=List.map_eq_nil_iff.1 e;have:0∈(List.range l.length).filter (Go.Lib.keeps l.toArray):=List.mem_filter.2 ⟨zac.2 (zb3.2 h),by simp [Go.Lib.keeps]⟩;rw [e] at this;cases this
theorem IW {d:Ctx} {nl:Fl} {es:List (List AV)} {N k:Nat} (hN:d.H[N]?=some (.live nl 1 es)) (hl:es.length=k) {v:Value}
 (h:(nl= .nil/\es=[]/\v= .slice none 0 0)\/(¬(nl= .nil/\es=[])/\∃ cap,v= .slice (some ⟨d.ι N,0,none⟩) k cap/\cap=d.K N)):V d (.own N k 0 k) v:=by
 refine .own _ _ _ _ _ ⟨⟨bn hN,by rw [hN];simp⟩,?_,fun bL br bt hs=>?_⟩
 ·rcases h with ⟨_,h2,h3⟩ | ⟨_,cap,h3,_⟩
  ·subst h2;simp at hl;subst hl;exact ⟨_,_,h3⟩
  ·exact ⟨_,_,h3⟩
 ·rw [hN] at hs;simp only [za2,Obj.live.injEq] at hs;obtain ⟨rfl,rfl,rfl⟩:=hs;refine ⟨by omega,fun _=>⟨by omega,?_⟩⟩;rcases h with h | ⟨h1,cap,h2,h3⟩
  ·exact .inl h
  ·exact .inr ⟨h1,cap,by simpa using h2,by omega⟩
theorem Su (w:World) (n B:Nat) (d:Array Int) (a:Addr):(putRow (Value.int .i64) (Go.Sort.ahead w n) B 0 d).frozen? a=w.frozen? a:=by
 unfold World.frozen? putRow mapBlock Go.Sort.ahead;simp only;rw [Array.getElem?_modify];by_cases e:B=a.block
 ·rw [if_pos e]
  cases w.heap[a.block]? with
  | none=>rfl
  | some o=>cases o<;>rfl
 ·rw [if_neg e]
theorem D2 (w:World) (n B:Nat) (d:Array Int) (b:Nat):(putRow (Value.int .i64) (Go.Sort.ahead w n) B 0 d).heap[b]?=if B=b then (w.heap[b]?).map (onCells (putCells (Value.int .i64) 0 d)) else w.heap[b]?:=by
 unfold putRow mapBlock Go.Sort.ahead;simp only;rw [Array.getElem?_modify]
theorem T5 (h:SR F c) {id sz k:Nat} {nl:Fl} {es:List (List AV)} (hid:c.H[id]?=some (.live nl sz es)) (hfree:nl.free=true) (hk:k<=es.length):
 ∃ d:Ctx,d.w=c.w/\d.H=c.H.set id .dead++[.live nl sz (es.take k)]/\SR F d/\(∀ x v,V c x v->V d x v)/\(∀ n,cK n c d)/\d.ι c.H.length=c.ι id/\d.K c.H.length=c.K id:=by
 have b8:=bn hid;let N:=c.H.length;let H':=c.H.set id .dead++[Obj.live nl sz (es.take k)];let ι':Nat->Nat:=fun j=>if j=N then c.ι id else c.ι j
 let K':Nat->Nat:=fun j=>if j=N then c.K id else c.K j
 have hlen:(c.H.set id .dead).length=N:=by simp [N]
 have hN:H'[N]?=some (.live nl sz (es.take k)):=by
  simp only [H'];rw [zaj (by omega),hlen];simp
 have hlo:∀ i,i < N->H'[i]?=if i=id then some .dead else c.H[i]?:=fun i hi=>by
  simp only [H'];rw [zai (by omega),List.getElem?_set];by_cases e:id=i
  ·subst e;rw [if_pos rfl,if_pos b8,if_pos rfl]
  ·rw [if_neg e,if_neg (fun q=>e q.symm)]
 have hhi:∀ i,N < i->H'[i]?=none:=fun i hi=>zao (by simp only [H'];rw [za8,hlen];simp;omega)
 have aL:∀ (i:Nat) o,H'[i]?=some o->o≠ .dead->(i=N/\o= .live nl sz (es.take k))\/(i≠N/\i≠id/\c.H[i]?=some o):=by
  intro i o hs hd;rcases Nat.lt_trichotomy i N with e | e | e
  ·rw [hlo i e] at hs;split at hs
   ·injection hs with hs;exact (hd hs.symm).elim
   ·rename_i q;exact .inr ⟨by omega,q,hs⟩
  ·subst e;rw [hN] at hs;injection hs with hs;exact .inl ⟨rfl,hs.symm⟩
  ·rw [hhi i e] at hs;cases hs
 have hι:∀ i,i≠N->ι' i=c.ι i:=fun i hi=>if_neg hi
 have abO:ι' N=c.ι id:=if_pos rfl;have JP:¬(nl= .nil/\es.take k=[])->¬(nl= .nil/\es=[]):=fun hh q=>hh ⟨q.1,by rw [q.2];simp⟩
 have hown:∀ b,bz H' ι' b->bz c.H c.ι b:=by
  rintro b ⟨i,bL,br,bt,h1,h2,h3⟩;rcases aL _ _ h1 (by simp) with ⟨rfl,e⟩ | ⟨q1,q2,q3⟩
  ·simp only [Obj.live.injEq] at e;obtain ⟨rfl,rfl,rfl⟩:=e;exact ⟨id,_,_,_,hid,JP h2,by rw [<-h3,abO]⟩
  ·exact ⟨i,_,_,_,q3,h2,by rw [<-h3,hι i q1]⟩
 let d:Ctx:=⟨c.w,fun b=>F b\/bz H' ι' b,ι',K',H'⟩;have Mb:∀ i,Has c i->i≠N:=fun i hi=>by have:=hi.1;omega
 have bY:∀ i,Has c i->Has d i:=by
  rintro i ⟨h1,h2⟩;refine ⟨by show i < H'.length;simp only [H'];rw [za8,hlen];omega,?_⟩;show H'[i]?≠_;rw [hlo i h1];split
  ·simp
  ·exact h2
 have hsp:∀ j o,d.H[j]?=some o->o.sp=true->c.H[j]?=some o/\d.ι j=c.ι j/\d.w.heap[c.ι j]?=c.w.heap[c.ι j]?:=by
  intro j o h1 h2;rcases aL j o h1 (by rintro rfl;simp [Obj.sp] at h2) with ⟨_,e⟩ | ⟨q1,_,q3⟩
  ·subst e;simp [Obj.sp] at h2
  ·exact ⟨q3,hι j q1,rfl⟩
 have Mc:∀ i bL br bt,i≠N->d.H[i]?=some (.live bL br bt)->c.H[i]?=some (.live bL br bt):=fun i bL br bt hi hs=>by
  rcases aL i _ hs (by simp) with ⟨q,_⟩ | ⟨_,_,q⟩
  ·exact (hi q).elim
  ·exact q
 have hV:∀ x v,V c x v->V d x v:=by
  intro x v hv;refine V.mono ?_ ?_ ?_ ?_ (fun i b hs=>hs.keep bY hsp) hv
  ·intro b hnb _;refine ⟨rfl,?_⟩;rintro (hf | ho)
   ·exact hnb ((h.hO b).2 (.inl hf))
   ·exact hnb ((h.hO b).2 (.inr (hown b ho)))
  ·rintro i e o l v ⟨g1,g2,g3⟩;have hi:=Mb i g1;refine ⟨bY i g1,g2,fun nl sz es hs=>?_⟩;have:=g3 nl sz es (Mc i _ _ _ hi hs);show e<=es.length/\(e=es.length->o+l<=e/\((nl= .nil/\es=[]/\v= .slice none 0 0)\/(¬(nl= .nil/\es=[])/\∃ cap,v= .slice (some ⟨ι' i,o*sz,none⟩) l cap/\o+cap=K' i)));rw [hι i hi,show K' i=c.K i from if_neg hi];exact this
  ·rintro i e o l v ⟨g1,q,g2,g3⟩;have hi:=Mb i g1;refine ⟨bY i g1,q,g2,g3.1,fun nl sz es hs=>?_⟩;have:=g3.2 nl sz es (Mc i _ _ _ hi hs);rw [show d.ι i=c.ι i from hι i hi];exact this
  ·rintro i e o l k v ⟨g1,q,g2,g3,g4⟩;have hi:=Mb i g1;refine ⟨bY i g1,q,g2,g3,fun nl sz es hs=>?_⟩;have:=g4 nl sz es (Mc i _ _ _ hi hs);rw [show d.ι i=c.ι i from hι i hi];exact this
 have hlen':c.H.length<=d.H.length:=by show N<=H'.length;simp only [H'];rw [za8,hlen];omega
 have aU:∀ n,cK n c d:=fun n=>⟨za7 _,fun _ _ _ _=>rfl,fun x v _ hv=>hV x v hv,fun b ho=> .inl (hown b ho),fun hn=>zaI hn hlen',cZ.refl _,fun b hb=> .inl (cD hsp hb)⟩
 have KO:SR F d:=by
  refine ⟨⟨?_,?_⟩,fun b=>Iff.rfl,h.hF,fun b ho=>h.eF b (hown b ho),h.x.keep hsp hV⟩
  ·intro i bL br bt hs hbk;rcases aL i _ hs (by simp) with ⟨rfl,e⟩ | ⟨q1,q2,q3⟩
   ·simp only [Obj.live.injEq] at e;obtain ⟨rfl,rfl,rfl⟩:=e;obtain ⟨cells,elem,g1,g2,g3,g4,g5⟩:=h.hr.back id _ _ _ hid (JP hbk);refine ⟨cells,elem,by rw [show d.ι N=c.ι id from abO];exact g1,by rw [show d.K N=c.K id from if_pos rfl];exact g2,by rw [show d.K N=c.K id from if_pos rfl,zbc];omega,.inr ⟨N,_,_,_,hs,hbk,rfl⟩,fun q hq=>?_⟩;have To:q < es.length:=by rw [zbc] at hq;omega
    have e:(es.take k)[q]=es[q]:=zar;refine ⟨by rw [e];exact (g5 q To).1,fun j hj=>?_⟩;obtain ⟨u,hu,hv⟩:=(g5 q To).2 j (by rw [e] at hj;exact hj);exact ⟨u,hu,by simp only [e];exact hV _ _ hv⟩
   ·obtain ⟨cells,elem,g1,g2,g3,g4,g5⟩:=h.hr.back i bL br bt q3 hbk;refine ⟨cells,elem,by rw [show d.ι i=c.ι i from hι i q1];exact g1,by rw [show d.K i=c.K i from if_neg q1];exact g2,by rw [show d.K i=c.K i from if_neg q1];exact g3,.inr ⟨i,bL,br,bt,hs,hbk,rfl⟩,fun q hq=>⟨(g5 q hq).1,fun j hj=>?_⟩⟩;obtain ⟨u,hu,hv⟩:=(g5 q hq).2 j hj;exact ⟨u,hu,hV _ _ hv⟩
  ·intro i i' vI CD o6 nl2 sz2 es2 h1 h2 h3 h4 he hlt;rcases aL i _ h1 (by simp) with ⟨rfl,e⟩ | ⟨q1,q2,q3⟩
   ·exfalso;rw [hhi i' hlt] at h3;cases h3
   ·rcases aL i' _ h3 (by simp) with ⟨rfl,e⟩ | ⟨r1,r2,r3⟩
    ·exfalso;simp only [Obj.live.injEq] at e;obtain ⟨rfl,rfl,rfl⟩:=e;have he:ι' i=ι' N:=he;rw [hι i q1,abO] at he;exact alone h hid (JP h4) hfree q2 q3 h2 he
    ·have he:ι' i=ι' i':=he;rw [hι i q1,hι i' r1] at he;exact h.hr.inj i i' _ _ _ _ _ _ q3 h2 r3 h4 he hlt
 exact ⟨d,rfl,rfl,KO,hV,aU,abO,if_pos rfl⟩
theorem GR {f:Nat} (hS:T4 P f) {xs:List AV} {r:AV} {H':List Obj} (h:Lh xs c.H=some (r,H')) (iU:SR F c) {vs:List Value} (hl:vs.length=xs.length)
 (hv:∀ i (hi:i < xs.length) (hj:i < vs.length),V c xs[i] vs[i]):
 Calls P f vs.toArray c.w fun e w'=>∃ v,∃ d:Ctx,e= .returned v/\d.w=w'/\d.H=H'/\SR F d/\cK c.H.length c d/\V d r v:=by
 unfold Lh at h;split at h
 case h_2=>cases h
 rename_i id ext off len;split at h
 case h_2=>cases h
 rename_i nl sz es hid;split at h
 case isFalse=>cases h
 rename_i hc;obtain ⟨hfree,rfl,rfl,rfl,rfl,Lt⟩:=hc;split at h
 case h_2=>cases h
 rename_i l hli;have oR:=tM hli;simp only [za2,za4] at h;obtain ⟨rfl,rfl⟩:=h;obtain ⟨v,rfl⟩:∃ v,vs=[v]:=by
  match vs,hl with
  | [v],_=>exact ⟨v,rfl⟩
 have h0:=hv 0 (by simp) (by simp);simp only [zaF] at h0
 cases h0 with
 | own _ _ _ _ _ ho=>
  obtain ⟨bY,⟨a,cap,hva⟩,lq⟩:=ho;have Bk:es.length=l.length:=by rw [oR];simp
  have iT:=GP l;obtain ⟨_,Ma⟩:=(lq _ _ _ hid).2 rfl;rcases Ma with ⟨hn1,hn2,UF⟩ | ⟨hbk,cap',UF,hK⟩
  ·subst UF;have vJ:l=[]:=by cases l with | nil=>rfl | cons a l=>rw [hn2] at Bk;simp at Bk
   subst vJ;refine (hS.nil 0 none c.w).mono ?_;rintro e w' ⟨rfl,rfl⟩;subst hn2;obtain ⟨d,h1,h2,h3,h4,h5,_⟩:=T5 (k:=0) iU hid hfree (za7 _);refine ⟨_,d,rfl,h1,h2,h3,h5 _,IW (es:=[]) (nl:=nl) ?_ rfl (.inl ⟨hn1,rfl,rfl⟩)⟩;rw [h2,zaj (by simp)];simp
  ·subst UF;obtain ⟨cells,elem,g1,g2,g3,g4,g5⟩:=iU.hr.back id nl 1 es hid hbk;have hB:c.ι id < c.w.heap.size:=(zaX.1 g1).1;have hcell:∀ j (hj:j < l.length),cells[j]?=some (.int .i64 l[j]):=fun j hj=>by
    obtain ⟨q1,q2⟩:=g5 j (by omega);obtain ⟨u,q3,q4⟩:=q2 0 (by omega);have e:es[j]'(by omega)=[AV.int .i64 l[j]]:=by simp [oR]
    rw [zbv,zb7] at q3;have e2:(es[j]'(by omega))[0]'(by omega)=AV.int .i64 l[j]:=by simp [e]
    rw [e2] at q4
    cases q4;exact q3
   have hH:Holds (Value.int .i64) c.w (c.ι id) 0 l.toArray:=fun j hj=>by
    have hj:j < l.length:=by simpa using hj
    refine ⟨?_,?_⟩
    ·unfold World.cell?;simp only [g1,zaD,hcell j hj];simp [getElem!_pos,hj]
    ·unfold World.frozen?;simp only [g1];simp
   have hcap:l.length<=cap':=by omega
   have o9:=hS.row (c.ι id) 0 cap' l c.w hH (by omega) hcap;rw [show ([Value.slice (some ⟨c.ι id,0*1,none⟩) es.length cap']:List Value).toArray=#[Value.slice (some ⟨c.ι id,0,none⟩) l.length cap'] by rw [Bk]];refine o9.mono ?_;rintro e w' ⟨rfl,n,rfl⟩;let m:List Int:=Go.Lib.compact l++List.replicate (l.length - (Go.Lib.compact l).length) 0;have hml:m.length=l.length:=by simp [m];omega
   have uL:(m.map fun n=>[AV.int .i64 n]).length=es.length:=by rw [zaa,hml,Bk]
   have hput:∀ i (hi:i < m.length),(putCells (Value.int .i64) 0 m.toArray cells)[i]?=some (.int .i64 m[i]):=fun i hi=>by
    simp only [putCells,zaO,zaD,true_and,Nat.sub_zero];rw [Array.getElem?_mapIdx,hcell i (by omega)];simp only [zaN];rw [if_pos (by simpa using hi)];simp [getElem!_pos,hi]
   have Ts:(putRow (Value.int .i64) (Go.Sort.ahead c.w n) (c.ι id) 0 m.toArray).heap[c.ι id]?=some (.cells (putCells (Value.int .i64) 0 m.toArray cells) elem (0,0)):=by
    rw [D2,if_pos rfl,g1];rfl
   obtain ⟨d,h1,h2,h3,h4,h5,h6,h7⟩:=o7 iU id (c.ι id) (c.K id) nl 1 (m.map fun n=>[.int .i64 n]) (putCells (Value.int .i64) 0 m.toArray cells) elem
    (putRow (Value.int .i64) (Go.Sort.ahead c.w n) (c.ι id) 0 m.toArray) (c.H.set id (.live nl 1 (m.map fun n=>[.int .i64 n])))
    (by simp) (by rw [zaG (bn hid)]) (fun j hj=> .inl (za6 (fun e=>hj e.symm))) (by rw [hid];simp) (wg hid)
    (fun bL br bt h=>by
     rw [hid] at h;simp only [za2,Obj.live.injEq] at h;obtain ⟨rfl,rfl,rfl⟩:=h;exact ⟨rfl,rfl,by omega,fun _=>⟨hbk,rfl,rfl⟩⟩)
    (fun hh=>hbk ⟨hh.1,zbA (by rw [<-uL,hh.2];rfl)⟩)
    ⟨rfl,rfl,rfl,fun a _=>Su c.w n _ _ a,by simp [putRow,mapBlock,Go.Sort.ahead]⟩
    (by simp [putRow,mapBlock,Go.Sort.ahead])
    (fun b hb hne=>by rw [D2,if_neg (fun e=>hne e.symm)])
    Ts
    (.inr ⟨id,nl,1,es,hid,hbk,rfl⟩)
    (fun j bL br bt hj hs hb he=>(alone iU hid hbk hfree hj hs hb he).elim)
    (by simp [putCells,g2]) (by rw [uL];exact g3)
    (fun i hi=>by
     have hi':i < m.length:=by simpa using hi
     refine ⟨by simp,fun j hj=>?_⟩;have hj0:j=0:=by simp at hj;omega
     subst hj0;refine ⟨.int .i64 m[i],?_,?_⟩
     ·rw [zbv,zb7];exact hput i hi'
     ·simp only [zay,zaF];exact .int _ _)
   have adJ:d.H[id]?=some (.live nl 1 (m.map fun n=>[.int .i64 n])):=by rw [h2,zaG (bn hid)]
   obtain ⟨d2,k1,k2,k3,k4,k5,k6,k7⟩:=T5 (k:=(Go.Lib.compact l).length) h3 adJ hfree (by rw [zaa];omega);have htk:(m.map fun n=>[AV.int .i64 n]).take (Go.Lib.compact l).length=(Go.Lib.compact l).map fun n=>[AV.int .i64 n]:=by
    rw [<-zbH];simp [m]
   have hNl:d.H.length=c.H.length:=by rw [h2];simp
   have hN:d2.H[c.H.length]?=some (.live nl 1 ((Go.Lib.compact l).map fun n=>[AV.int .i64 n])):=by
    rw [k2,htk,zaj (by simp [hNl])];simp [hNl]
   refine ⟨_,d2,rfl,by rw [k1,h1],by rw [k2,h2,List.set_set,htk],k3,(h5 _).trans (k5 _),IW hN (zaa _) (.inr ⟨fun hh=>?_,cap',?_,?_⟩)⟩
   ·have vJ:l=[]:=zbk fun hne=>GQ hne (List.map_eq_nil_iff.1 hh.2)
    exact hbk ⟨hh.1,zbA (by rw [Bk,vJ];rfl)⟩
   ·rw [<-hNl,k6,h6]
   ·rw [<-hNl,k7,h7];omega
end
end Go.Am
