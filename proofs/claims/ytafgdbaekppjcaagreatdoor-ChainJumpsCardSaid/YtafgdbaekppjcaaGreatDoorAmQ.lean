/- Parts of my machine and its laws, joined: AmQ AmR. No condition. -/
import Derived.Test.YtafgdbaekppjcaaGreatDoorAmO
import Derived.Laws.AppendOwn
set_option linter.unusedSectionVars false
set_option linter.unusedVariables false
set_option linter.unusedSimpArgs false
section
namespace Go.Am
section
variable {P:Program} {F:Fo} {c:Ctx}
theorem SM (h:SR F c) {t:TypeId} {n:Nat} (hn:cW P t=some n) {p x:AV} {pv xv:Value} (hp:V c p pv) (hx:V c x xv) {H':List Obj}
 (hs:storeAt c.H n p x=some H'):∃ d:Ctx,d.H=H'/\dR F c d/\(Instr.storeAt t pv xv).run P c.w= .ok () d.w:=by
 unfold storeAt at hs;split at hs
 case h_2=>simp at hs
 rename_i id ext e o;split at hs
 case h_2=>simp at hs
 rename_i sz es hl;obtain ⟨nl,hid⟩:=bB hl;split at hs
 case isFalse=>simp at hs
 rename_i hc;obtain ⟨eU,hxn,Yh,hone,hfree⟩:=hc;split at hs
 case h_2=>simp at hs
 rename_i cs hcs;obtain ⟨he,rfl⟩:=zab.1 hcs;injection hs with hs
 have qC:cy c.H id=nl:=by simp [cy,hid]
 rw [qC] at hs hfree
 cases hp with
 | aJ _ _ _ _ _ KS=>
 obtain ⟨⟨b8,_⟩,a,rfl,hsp,KS⟩:=KS;have ha:=(KS _ _ _ hid).2 eU;subst ha;have hbk:¬(nl= .nil/\es=[]):=by rintro ⟨_,rfl⟩;simp at he
 obtain ⟨cells,elem,b1,b2,b3,b4,b5⟩:=h.hr.back id nl sz es hid hbk;obtain ⟨uJ,abr⟩:=u9 hx hone;have adK:es[e].length=sz:=(b5 e he).1;have hmul:e*sz+sz<=c.K id*sz:=by
  have:=zag sz (show e+1<=c.K id by omega);rw [zaC,zb2] at this;exact this
 have CV:xv.cells.toList.length=n:=by simp [uJ.1,hxn]
 have hst:=run_storeCells_at P (c.ι id) (e*sz+o) elem xv.cells.toList 0 cells c.w b1 (by rw [CV,b2];omega) abr;simp only [zb7] at hst;generalize hnew:(cells.toList.take (e*sz+o)++xv.cells.toList++cells.toList.drop (e*sz+o+xv.cells.toList.length)).toArray=cells' at hst;have hsize:cells'.size=cells.size:=by rw [<-hnew];simp;simp at CV;omega
 have aL:∀ q,cells'[q]?=if e*sz+o<=q/\q < e*sz+o+n then xv.cells[q - (e*sz+o)]? else cells[q]?:=by
  intro q;rw [<-hnew];simp only [zbz];have Uw:(cells.toList.take (e*sz+o)).length=e*sz+o:=by simp;omega
  by_cases h1:e*sz+o<=q/\q < e*sz+o+n
  ·rw [if_pos h1,zaH,zaj (by omega),Uw,zai (by rw [CV];omega)];simp
  ·rw [if_neg h1];rcases zak q (e*sz+o) with h2 | h2
   ·rw [zaH,zai (by omega)];rw [List.getElem?_take_of_lt h2];simp
   ·rw [zaj (by simp at CV ⊢;omega)];simp only [za8,Uw,CV,List.getElem?_drop];have:e*sz+o+n+(q - (e*sz+o+n))=q:=by omega
    rw [this];simp
 obtain ⟨d,d1,d2,d3,d4,d5,_,_⟩:=o7 h id (c.ι id) (c.K id) nl sz (es.set e (putAt es[e] o x.cells)) cells' elem (c.w.setRow (c.ι id) cells') H'
  (by rw [<-hs];simp) (by rw [<-hs];simp [b8]) (fun j hj=>by left;rw [<-hs,za6 (fun q=>hj q.symm)])
  (by rw [hid];simp) (wg hid) (fun bL br bt h0=>by
   rw [hid] at h0;injection h0 with h0;injection h0 with q1 q2 q3
   subst q1;subst q2;subst q3;exact ⟨rfl,rfl,by simp,fun _=>⟨hbk,rfl,rfl⟩⟩)
  (by rintro ⟨q1,q2⟩;have:=congrArg List.length q2;simp at this;exact hbk ⟨q1,this⟩)
  (cZ.setRow b1) (by simp) (fun b _ hne=>setRow_other c.w _ b _ hne) (setRow_heap c.w _ cells cells' elem _ b1) (.inr ⟨id,nl,sz,es,hid,hbk,rfl⟩)
  (fun j bL br bt hj hs0 kn Qq=>(alone h hid hbk hfree hj hs0 kn Qq).elim) (by rw [hsize,b2]) (by simpa using b3) (by
   intro i hi;simp at hi;by_cases Tp:e=i
   ·subst Tp;simp only [List.getElem_set_self];refine ⟨by rw [b9];exact adK,fun j hj=>?_⟩;rw [b9] at hj;rw [aL];by_cases hr:o<=j/\j < o+n
    ·rw [if_pos (by omega)];have e1:e*sz+j - (e*sz+o)=j - o:=by omega
     have hlt:j - o < xv.cells.size:=by simp at CV;omega
     refine ⟨xv.cells[j - o],by rw [e1];simp [hlt],?_⟩;rw [lN _ _ _ _ (by rw [b9];exact hj) (by omega),dif_pos (by omega)];exact uJ.2 (j - o) (by omega) hlt
    ·rw [if_neg (by omega)];obtain ⟨u,hu,hv⟩:=(b5 e he).2 j hj;refine ⟨u,hu,?_⟩;rw [lN _ _ _ _ (by rw [b9];exact hj) (by omega),dif_neg (by omega)];exact hv
   ·have hg:(es.set e (putAt es[e] o x.cells))[i]'(by simp;exact hi)=es[i]:=by rw [zbw Tp]
    obtain ⟨g1,g2⟩:=b5 i hi;refine ⟨by rw [hg];exact g1,fun j hj=>?_⟩;have hj2:j < es[i].length:=by rw [hg] at hj;exact hj
    obtain ⟨u,hu,hv⟩:=g2 j hj2;refine ⟨u,?_,?_⟩
    ·rw [aL,if_neg]
     ·exact hu
     ·rintro ⟨a1,a2⟩;have hjs:j < sz:=by omega
      rcases zak i e with q | q
      ·have:=zag sz (show i+1<=e by omega);rw [zaC,zb2] at this;omega
      ·have:=zag sz (show e+1<=i by omega);rw [zaC,zb2] at this;omega
    ·have:(es.set e (putAt es[e] o x.cells))[i][j]'hj=es[i][j]:=by simp only [hg]
     rw [this];exact hv)
 refine ⟨d,d2,⟨d3,d4,d5⟩,?_⟩;rw [d1];simp only [Instr.storeAt,Instr.sureAddr,Sem.run_bind,Sem.run_pure,Result.andThen_ok,storeVar,bZ hn];rw [if_neg (by simp at CV;simp [CV])];exact hst
theorem TD (hr:HR c) {x:AV} {xv:Value} {sz:Nat} {new:List (List AV)} (hx:V c x xv) (h:dz c.H x=some new)
 (hall:(new.all fun e=>e.length==sz&&aW e)=true):
 ∃ arr:Array Value,(∀ w',(Builtin.lenOf xv).run P w'= .ok new.length w')/\(∀ w':World,w'.heap=c.w.heap->(Builtin.firstCells sz new.length xv).run P w'= .ok arr w')/\
  arr.size=new.length*sz/\Row c sz new arr/\∀ u∈arr.toList,u.oneCell'=true:=by
 have hlen:∀ i (hi:i < new.length),new[i].length=sz/\aW new[i]=true:=by
  intro i hi;have:=zaf.1 hall _ (zax hi);simpa using this
 have hlt:∀ i j,i < new.length->j < sz->i*sz+j < new.length*sz:=by
  intro i j hi hj;have:=zag sz (show i+1<=new.length by omega);rw [zaC,zb2] at this;omega
 have key:∀ (f:Nat->Nat->Value),(∀ i j (hi:i < new.length) (hj:j < new[i].length),V c new[i][j] (f i j))->
  ∀ arr:Array Value,arr.size=new.length*sz->(∀ i j,i < new.length->j < sz->arr[i*sz+j]?=some (f i j))->
  Row c sz new arr/\∀ u∈arr.toList,u.oneCell'=true:=by
  intro f hf arr hs hg;refine ⟨fun i hi=>⟨(hlen i hi).1,fun j hj=>⟨f i j,hg i j hi (by rw [<-(hlen i hi).1];exact hj),hf i j hi hj⟩⟩,fun u hu=>?_⟩;obtain ⟨q,hq,rfl⟩:=zaE hu;simp at hq;have vU:0 < sz:=by
   rcases Nat.eq_zero_or_pos sz with e | e
   ·rw [e,Nat.mul_zero] at hs;omega
   ·exact e
  have Tt:q / sz < new.length:=by rw [Nat.div_lt_iff_lt_mul vU];omega
  have hqj:q % sz < sz:=zc4 _ vU;have hdm:q / sz*sz+q % sz=q:=by rw [Nat.mul_comm];exact Nat.div_add_mod q sz
  have:=hg _ _ Tt hqj;rw [hdm] at this;have hqs:q < arr.size:=hq;rw [zam hqs] at this;injection this with this
  simp only [zbC];rw [this];obtain ⟨l1,l2⟩:=hlen _ Tt;exact (tf (hf _ _ Tt (by rw [l1];exact hqj)) (qf l2 _ (zax _))).2
 have rowAt:∀ (a:Addr) (f:Nat->Nat->Value),(new≠[]->0 < sz->a.spot=none)->
  (∀ i j,i < new.length->j < sz->c.w.cell? ⟨a.block,a.off+i*sz+j,none⟩=some (f i j))->
  ∀ (w':World),w'.heap=c.w.heap->∀ len cap,(Builtin.firstCells sz new.length (.slice (some a) len cap)).run P w'=
   .ok ((List.range (new.length*sz)).map fun q=>f (q / sz) (q % sz)).toArray w':=by
  intro a f hsp hf w' hw len cap;simp only [Builtin.firstCells];refine run_loadCells (P:=P) w' a (new.length*sz) (fun q=>f (q / sz) (q % sz)) (fun q hq=>?_);have vU:0 < sz:=by
   rcases Nat.eq_zero_or_pos sz with e | e
   ·rw [e] at hq;simp at hq
   ·exact e
  have hne:new≠[]:=by rintro rfl;simp at hq
  rw [jU a q (hsp hne vU)];have Tt:q / sz < new.length:=by rw [Nat.div_lt_iff_lt_mul vU];exact hq
  have hdm:q / sz*sz+q % sz=q:=by rw [Nat.mul_comm];exact Nat.div_add_mod q sz
  have:=hf (q / sz) (q % sz) Tt (zc4 _ vU);rw [Nat.add_assoc,hdm] at this;rw [<-this];simp [World.cell?,hw]
 have Fh:∀ (f:Nat->Nat->Value),(((List.range (new.length*sz)).map fun q=>f (q / sz) (q % sz)).toArray).size=new.length*sz/\
  ∀ i j,i < new.length->j < sz->(((List.range (new.length*sz)).map fun q=>f (q / sz) (q % sz)).toArray)[i*sz+j]?=some (f i j):=by
  intro f;refine ⟨by simp,fun i j hi hj=>?_⟩;have h1:=hlt i j hi hj;have vU:0 < sz:=by omega
  have e1:(i*sz+j) / sz=i:=by rw [Nat.add_comm,Nat.add_mul_div_right _ _ vU,Nat.div_eq_of_lt hj,zaD]
  have e2:(i*sz+j) % sz=j:=by rw [Nat.add_comm,Nat.add_mul_mod_self_right];exact Nat.mod_eq_of_lt hj
  simp [h1,e1,e2]
 unfold dz at h;split at h
 ·injection h with h;subst h
  cases hx;exact ⟨#[],fun w'=>rfl,fun w' _=>by simp [Builtin.firstCells],by simp,fun i hi=>by simp at hi,by simp⟩
 ·injection h with h;subst h
  rename_i new
  cases hx with
  | CB=>exact ⟨#[],fun w'=>rfl,fun w' _=>by simp [Builtin.firstCells],by simp,fun i hi=>by simp at hi,by simp⟩
  | ro _ a cap sz' vs hb0 hcap h1 h2 h3 h4=>
   by_cases hne:new=[]
   ·subst hne;exact ⟨#[],fun w'=>rfl,fun w' _=>by simp [Builtin.firstCells,loadCells,loadCellsFrom],by simp,fun i hi=>by simp at hi,by simp⟩
   ·have h0:0 < new.length:=zb3.2 hne;have hs':sz'=sz:=by rw [<-h2 0 h0];exact (hlen 0 h0).1
    subst hs';obtain ⟨r1,r2⟩:=Fh vs;obtain ⟨k1,k2⟩:=key vs h4 _ r1 r2;refine ⟨_,fun w'=>rfl,fun w' hw=>rowAt a vs (fun a b=>(h1 a b).1) (fun i j hi hj=>h3 i j hi (by rw [h2];exact hj)) w' hw _ _,r1,k1,k2⟩
 ·rename_i id ext off len;split at h
  case h_2=>simp at h
  rename_i sz' es hl;obtain ⟨nl,hid⟩:=bB hl;split at h
  case isFalse=>simp at h
  rename_i eU;injection h with h;subst h
  cases hx with
  | own _ _ _ _ _ how=>
   obtain ⟨hlt',_,how⟩:=how;obtain ⟨hle,how⟩:=how _ _ _ hid;obtain ⟨X1,how⟩:=how eU;have qC:((es.drop off).take len).length=len:=by simp;omega
   rcases how with ⟨_,oR,rfl⟩ | ⟨hbk,cap,rfl,hcap⟩
   ·subst oR;have vJ:len=0:=by simp at qC;omega
    subst vJ;exact ⟨#[],fun w'=>by simp [Builtin.lenOf],fun w' _=>by simp [Builtin.firstCells],by simp,fun i hi=>by simp at hi,by simp⟩
   ·obtain ⟨cells,elem,b1,b2,b3,b4,b5⟩:=hr.back _ _ _ _ hid hbk;by_cases vJ:len=0
    ·subst vJ;exact ⟨#[],fun w'=>by simp [Builtin.lenOf],fun w' _=>by simp [Builtin.firstCells,loadCells,loadCellsFrom],by simp,fun i hi=>by simp at hi,by simp⟩
    ·have hs':sz'=sz:=by
      have e1:=(hlen 0 (by omega)).1;simp only [zar,zas] at e1;rw [<-(b5 (off+0) (by omega)).1];exact e1
     subst hs';let f:Nat->Nat->Value:=fun i j=>(cells[(off+i)*sz'+j]?).getD undef
     have hf:∀ i j,i < len->j < sz'->cells[(off+i)*sz'+j]?=some (f i j)/\∃ (h1:off+i < es.length) (h2:j < es[off+i].length),V c es[off+i][j] (f i j):=by
      intro i j hi hj;have ZW:off+i < es.length:=by omega
      obtain ⟨q1,q2⟩:=b5 (off+i) ZW;obtain ⟨u,hu,hv⟩:=q2 j (by omega);have:f i j=u:=by simp [f,hu]
      rw [this];exact ⟨hu,ZW,by omega,hv⟩
     obtain ⟨r1,r2⟩:=Fh f;obtain ⟨k1,k2⟩:=key f (fun i j hi hj=>by
      have hj':=hj;simp only [zar,zas] at hj' ⊢;obtain ⟨_,g1,g2,g3⟩:=hf i j (by omega) (by rw [(b5 (off+i) (by omega)).1] at hj';exact hj');exact g3) _ r1 r2
     refine ⟨_,fun w'=>by simp only [Builtin.lenOf,Sem.run_pure,qC],fun w' hw=>rowAt _ f (fun _ _=>rfl) (fun i j hi hj=>?_) w' hw _ _,r1,k1,k2⟩;obtain ⟨g1,_⟩:=hf i j (by omega) hj;simp only [World.cell?,b1];rw [<-g1];simp only [Option.isSome_none,za9,if_false];rw [zaC]
 ·rename_i s;injection h with h;subst h
  cases hx;by_cases hne:s=[]
  ·subst hne;exact ⟨#[],fun w'=>rfl,fun w' _=>by simp [Builtin.firstCells],by simp,fun i hi=>by simp at hi,by simp⟩
  ·have h0:0 < s.length:=zb3.2 hne;have hs1:sz=1:=by
    have:=(hlen 0 (by simpa using h0)).1;simpa using this.symm
   subst hs1;let f:Nat->Nat->Value:=fun i _=> .int .u8 ((s[i]?).getD 0).toNat
   have hsz:(⟨s.toArray⟩:ByteArray).size=s.length:=by simp [ByteArray.size]
   obtain ⟨k1,k2⟩:=key f (fun i j hi hj=>by
    have hi':i < s.length:=by simpa using hi
    have hj0:j=0:=by simp at hj;omega
    subst hj0;simp only [zay,zaF,f,za1 hi',zaz];exact V.int _ _) ((s.map fun b=>Value.int .u8 (b.toNat:Int)).toArray) (by simp) (fun i j hi hj=>by
    have hi':i < s.length:=by simpa using hi
    have hj0:j=0:=by omega
    subst hj0;simp [f,hi'])
   refine ⟨_,fun w'=>by simp [Builtin.lenOf,hsz],fun w' _=>?_,by simp,k1,k2⟩;simp only [Builtin.firstCells,Sem.run_pure,zaa];congr 1;apply zbp
   simp
 ·rename_i id ext e o sz' len;unfold fJ at h;split at h
  case h_2=>simp at h
  rename_i SZ es hl;obtain ⟨nl,hid⟩:=bB hl;split at h
  case isFalse=>simp at h
  rename_i eU;split at h
  case h_2=>simp at h
  rename_i cs hcs;obtain ⟨he,rfl⟩:=zab.1 hcs;split at h
  case isFalse=>simp at h
  rename_i hle;injection h with h;subst h
  have iT:=iF sz' len (es[e].drop o)
  cases hx with
  | arr _ _ _ _ _ _ _ ha=>
   obtain ⟨hlt',a,⟨cap,rfl,hcap⟩,hsp,ha⟩:=ha;have:=(ha _ _ _ hid).2 eU;subst this;by_cases vJ:len=0
   ·subst vJ;exact ⟨#[],fun w'=>by simp [Builtin.lenOf,chunks],fun w' _=>by simp [Builtin.firstCells,loadCells,loadCellsFrom,chunks],by simp [chunks],fun i hi=>by simp [chunks] at hi,by simp⟩
   ·have hmul:∀ i,i < len->i*sz'+sz'<=len*sz':=by
     intro i hi;have:=zag sz' (show i+1<=len by omega);rw [zaC,zb2] at this;exact this
    have hs':sz'=sz:=by
     have e1:=(hlen 0 (by rw [iT];omega)).1;rw [fj] at e1;have:=hmul 0 (by omega);simp at e1;omega
    subst hs';obtain ⟨vs,_,v3,v4⟩:=j6 hr hid he;let f:Nat->Nat->Value:=fun i j=>vs (o+(i*sz'+j))
    obtain ⟨r1,r2⟩:=Fh f;obtain ⟨k1,k2⟩:=key f (fun i j hi hj=>by
     have hi':i < len:=by rw [iT] at hi;exact hi
     have hj2:j < sz':=by rw [(hlen i hi).1] at hj;exact hj
     have:=hmul i hi';have h4:=v4 (o+(i*sz'+j)) (by omega);have ee:(chunks sz' len (es[e].drop o))[i][j]=es[e][o+(i*sz'+j)]'(by omega):=by
      simp only [fj,zar,zas]
     rw [ee];exact h4) _ r1 r2
    refine ⟨_,fun w'=>by simp only [Builtin.lenOf,Sem.run_pure,iT],fun w' hw=>rowAt _ f (fun _ _=>rfl) (fun i j hi hj=>?_) w' hw _ _,r1,k1,k2⟩;have hi':i < len:=by rw [iT] at hi;exact hi
    have:=hmul i hi';have:=v3 (o+(i*sz'+j)) (by omega);rw [<-this];congr 2;simp only;omega
 ·simp at h
end
end Go.Am
end
section
namespace Go.Am
section
variable {P:Program} {F:Fo} {c:Ctx}
theorem fits {need old bytes:Nat} (h:old < need) (hb:need*bytes<=2 ^ 40):¬ (Builtin.nextslicecap need old*bytes > 2 ^ 48):=by
 have h1:(2:Nat)^40=1099511627776:=by decide
 have:=growslice_fits (bytes:=bytes) h (by rw [h1] at hb;omega);have h2:(2:Nat)^48=281474976710656:=by decide
 omega
theorem sB {t u ty e:TypeId} {sz:Nat} {d:TypeDesc} (ht:P.underlying t=some (.slice e)) (hu:P.underlying u=some d) (hd:(∃ e',d= .slice e')\/d= .string)
 (hsz:cW P e=some sz) {xv:Value} {m:Nat} {arr:Array Value} (w:World) (hl:(Builtin.lenOf xv).run P w= .ok m w) (hf:(Builtin.firstCells sz m xv).run P w= .ok arr w)
 {b sLen sCap:Nat} (hroom:sLen+m<=sCap) {w':World} (hst:(storeCells ⟨b,sLen*sz,none⟩ arr.toList).run P w= .ok () w'):
 (Builtin.append_ #[t,u] ty #[.slice (some ⟨b,0,none⟩) sLen sCap,xv]).run P w= .ok (.slice (some ⟨b,0,none⟩) (sLen+m) sCap) w':=by
 unfold Builtin.append_;rcases hd with ⟨e',rfl⟩ | rfl
 all_goals
  simp only [zbz,zaq,zbE,Sem.run_bind,aA ht,aA hu,Result.andThen_ok,bZ hsz,Sem.run_pure,
   za9,if_false,hl,hroom,if_true,Bool.not_false,hf,add_eq,zaD,hst]
theorem mQ {t u ty e:TypeId} {sz bytes:Nat} {d:TypeDesc} (ht:P.underlying t=some (.slice e)) (hu:P.underlying u=some d) (hd:(∃ e',d= .slice e')\/d= .string)
 (hsz:cW P e=some sz) (hby:bytesOf P e=some bytes) {z:List AV} (hz:zeroOf P e=some z) (hzl:z.length=sz) {xv:Value} {m:Nat} {arr old:Array Value} (w:World)
 (hl:(Builtin.lenOf xv).run P w= .ok m w) (hf:∀ w':World,w'.heap=w.heap->(Builtin.firstCells sz m xv).run P w'= .ok arr w')
 {base:Option Addr} {sLen sCap:Nat} (hfo:∀ w':World,w'.heap=w.heap->(Builtin.firstCells sz sLen (.slice base sLen sCap)).run P w'= .ok old w')
 (hroom:sCap < sLen+m) (CJ:(sLen+m)*bytes<=2 ^ 40) (Fz:sLen+m<=2 ^ 40):
 ∃ cap rest k,sLen+m<=cap/\rest.size=(cap - (sLen+m))*sz/\
  (Builtin.append_ #[t,u] ty #[.slice base sLen sCap,xv]).run P w=
   .ok (.slice (some ⟨w.heap.size,0,none⟩) (sLen+m) cap) { w with drawn:=k,heap:=w.heap.push (.cells (old++arr++rest) e) }:=by
 obtain ⟨i,zv,hi,Cu,rfl⟩:=ep hz;have hib:i.bytes=bytes:=by
  unfold bytesOf at hby;rw [hi] at hby;injection hby
 let cap:=(Question.appendCap (sLen+m) sCap e).cut (w.tape w.drawn (.appendCap (sLen+m) sCap e));have hge:sLen+m<=cap:=by simp [cap,Question.cut]
 refine ⟨cap,Builtin.zeroCells zv.cells (cap - (sLen+m)),w.drawn+1,hge,?_,?_⟩
 ·rw [size_zeroCells];congr 1;simpa using hzl
 ·have h63:¬ (((sLen+m:Nat):Int) > IntKind.i64.max/\(False\/bytes=0)):=by
   have h2:IntKind.i64.max=9223372036854775807:=by decide
   have h3:(2:Nat)^40=1099511627776:=by decide
   rw [h2];omega
  have h48:=fits (bytes:=bytes) hroom CJ;have Fw:∀ w,(typeInfo e).run P w= .ok i w:=fun w=>by simp [typeInfo,hi]
  have VT:(Question.appendCap (sLen+m) sCap e).forced=false:=rfl;have hff:=hfo { w with drawn:=w.drawn+1 } rfl;have hfn:=hf { w with drawn:=w.drawn+1 } rfl;unfold Builtin.append_;rcases hd with ⟨e',rfl⟩ | rfl
  all_goals
   simp only [zbz,zaq,zbE,Sem.run_bind,aA ht,aA hu,Result.andThen_ok,bZ hsz,Sem.run_pure,
    za9,if_false,hl,Nat.not_le.2 hroom,Fw,hib,h48,Sem.run_ite,run_choose,VT,run_askRoom,ff hi Cu]
   rw [if_neg h63];simp only [Result.andThen_ok,hff,Bool.not_false,if_true,hfn,dx];rfl
theorem eK {es new:List (List AV)} {sz:Nat} {old arr rest:Array Value} (hold:Row c sz es old) (hos:old.size=es.length*sz) (hnew:Row c sz new arr) (has:arr.size=new.length*sz):
 Row c sz (es++new) (old++arr++rest):=by
 intro i hi;simp at hi;by_cases h:i < es.length
 ·simp only [zaU h];obtain ⟨g1,g2⟩:=hold i h;refine ⟨g1,fun j hj=>?_⟩;obtain ⟨u,hu,hv⟩:=g2 j hj;refine ⟨u,?_,hv⟩;have hlt:i*sz+j < old.size:=by
   rcases zak (i*sz+j) old.size with e | e
   ·exact e
   ·rw [zan e] at hu;simp at hu
  rw [Array.append_assoc,zb5 hlt];exact hu
 ·have h2:es.length<=i:=by omega
  simp only [zaQ h2];obtain ⟨g1,g2⟩:=hnew (i - es.length) (by omega);refine ⟨g1,fun j hj=>?_⟩;obtain ⟨u,hu,hv⟩:=g2 j hj;refine ⟨u,?_,hv⟩;have hm:i*sz=es.length*sz+(i - es.length)*sz:=by rw [<-zaC];congr 1;omega
  have hlt:(i - es.length)*sz+j < arr.size:=by
   rcases zak ((i - es.length)*sz+j) arr.size with e | e
   ·exact e
   ·rw [zan e] at hu;simp at hu
  rw [Array.append_assoc,Array.getElem?_append_right (by omega),zb5 (by omega)];rw [<-hu];congr 1;omega
theorem V.drawn {d:Ctx} {x:AV} {v:Value} (h:V d x v) (w':World) (hw:w'.heap=d.w.heap):V { d with w:=w' } x v:=
 V.mono (c:=d) (d:={ d with w:=w' }) (fun b hb _=>⟨by simp only [hw],hb⟩) (fun _ _ _ _ _ h=>h) (fun _ _ _ _ _ h=>h) (fun _ _ _ _ _ _ h=>h) (fun _ _ h=>h) h
theorem SR.drawn (h:SR F c) (k:Nat):dR F c { c with w:={ c.w with drawn:=k } }:=by
 have hw:({ c.w with drawn:=k }:World).heap=c.w.heap:=rfl;generalize hw':({ c.w with drawn:=k }:World)=w' at hw;have KI:cZ c.w w':=by subst hw';exact ⟨rfl,rfl,rfl,fun _ _=>rfl,za7 _⟩
 refine ⟨⟨⟨?_,h.hr.inj⟩,h.hO,fun b hf=>by simp only [hw];exact h.hF b hf,h.eF,h.x.keep (fun id o h1 h2=>⟨h1,rfl,by simp only [hw]⟩) fun x v hx=>hx.drawn w' hw⟩,fun x v hx=>hx.drawn w' hw,fun n=>⟨by simp [hw],fun b _ _ _=>by simp [hw],fun x v _ hx=>hx.drawn w' hw,fun b ho=> .inl ho,fun h=>h,KI,fun b hb=> .inl hb⟩⟩;intro id nl sz es h1 h2;obtain ⟨cells,elem,g1,g2,g3,g4,g5⟩:=h.hr.back id nl sz es h1 h2;refine ⟨cells,elem,by simp only [hw];exact g1,g2,g3,g4,fun i hi=>⟨(g5 i hi).1,fun j hj=>?_⟩⟩;obtain ⟨u,hu,hv⟩:=(g5 i hi).2 j hj;exact ⟨u,hu,hv.drawn w' hw⟩
theorem Row.hY {d:Ctx} {sz:Nat} {es:List (List AV)} {cells:Array Value} (h:Row c sz es cells) (hv:∀ x v,V c x v->V d x v):Row d sz es cells:=by
 intro i hi;obtain ⟨g1,g2⟩:=h i hi;refine ⟨g1,fun j hj=>?_⟩;obtain ⟨u,hu,hV⟩:=g2 j hj;exact ⟨u,hu,hv _ _ hV⟩
theorem x7 (h:SR F c) {id:Nat} {nl fl:Fl} {sz:Nat} {es:List (List AV)} (hid:c.H[id]?=some (.live nl sz es)) (hn:nl= .nil↔fl= .nil)
 (hp:∀ j bL br bt,j≠id->c.H[j]?=some (.live bL br bt)->¬(bL= .nil/\bt=[])->c.ι j=c.ι id->¬(nl= .nil/\es=[])->(id < j->fl.old=true)/\(j < id->fl.CC=true)):
 ∃ d:Ctx,d.w=c.w/\d.H=c.H.set id (.live fl sz es)/\dR F c d/\d.ι=c.ι/\d.K=c.K:=by
 have b8:=bn hid;let H':=c.H.set id (.live fl sz es);have aL:∀ (i:Nat) bL br bt,H'[i]?=some (.live bL br bt)->∃ vI,c.H[i]?=some (.live vI br bt)/\(vI= .nil↔bL= .nil)/\(i≠id->vI=bL):=by
  intro i bL br bt hs;by_cases hi:i=id
  ·subst hi;simp only [H',zaG b8,za2,Obj.live.injEq] at hs;obtain ⟨rfl,rfl,rfl⟩:=hs;exact ⟨nl,hid,hn,fun q=>(q rfl).elim⟩
  ·refine ⟨bL,?_,Iff.rfl,fun _=>rfl⟩;rw [<-hs];simp only [H'];rw [za6 (fun q=>hi q.symm)]
 have hown:∀ b,bz H' c.ι b->bz c.H c.ι b:=by
  rintro b ⟨i,bL,br,bt,h1,h2,h3⟩;obtain ⟨vI,e1,e2,_⟩:=aL _ _ _ _ h1;exact ⟨i,vI,br,bt,e1,fun q=>h2 ⟨e2.1 q.1,q.2⟩,h3⟩
 let d:Ctx:=⟨c.w,fun b=>F b\/bz H' c.ι b,c.ι,c.K,H'⟩;have bY:∀ i,Has c i->Has d i:=by
  rintro i ⟨h1,h2⟩;refine ⟨by simpa [d,H'] using h1,fun e=>?_⟩;by_cases hi:i=id
  ·subst hi;simp [d,H',b8] at e
  ·refine h2 ?_;rw [<-e];simp only [d,H'];rw [za6 (fun q=>hi q.symm)]
 have hsp:∀ j o,d.H[j]?=some o->o.sp=true->c.H[j]?=some o/\d.ι j=c.ι j/\d.w.heap[c.ι j]?=c.w.heap[c.ι j]?:=by
  intro j o h1 h2;refine ⟨?_,rfl,rfl⟩;by_cases hj:j=id
  ·subst hj;simp [d,H',b8] at h1;subst h1;simp [Obj.sp] at h2
  ·rw [<-h1];simp only [d,H'];rw [za6 (fun q=>hj q.symm)]
 have hV:∀ x v,V c x v->V d x v:=by
  intro x v hv;refine V.mono ?_ ?_ ?_ ?_ (fun i b hs=>hs.keep bY hsp) hv
  ·intro b hnb _;refine ⟨rfl,?_⟩;rintro (hf | ho)
   ·exact hnb ((h.hO b).2 (.inl hf))
   ·exact hnb ((h.hO b).2 (.inr (hown b ho)))
  ·rintro i e o l v ⟨g1,g2,g3⟩;refine ⟨bY i g1,g2,fun bL br bt hs=>?_⟩;obtain ⟨vI,e1,e2,_⟩:=aL _ _ _ _ hs;obtain ⟨k1,k2⟩:=g3 vI br bt e1;refine ⟨k1,fun he=>?_⟩;obtain ⟨k3,k4⟩:=k2 he;refine ⟨k3,?_⟩;rcases k4 with ⟨q1,q2,q3⟩ | ⟨q1,q2⟩
   ·exact .inl ⟨e2.1 q1,q2,q3⟩
   ·exact .inr ⟨fun q=>q1 ⟨e2.2 q.1,q.2⟩,q2⟩
  ·rintro i ext e o v ⟨g1,q,g2,g3,g4⟩;refine ⟨bY i g1,q,g2,g3,fun bL br bt hs=>?_⟩;obtain ⟨vI,e1,_⟩:=aL _ _ _ _ hs;exact g4 vI br bt e1
  ·rintro i ext e o l v ⟨g1,q,g2,g3,g4⟩;refine ⟨bY i g1,q,g2,g3,fun bL br bt hs=>?_⟩;obtain ⟨vI,e1,_⟩:=aL _ _ _ _ hs;exact g4 vI br bt e1
 refine ⟨d,rfl,rfl,⟨⟨⟨?_,?_⟩,fun b=>Iff.rfl,h.hF,fun b ho=>h.eF b (hown b ho),h.x.keep hsp hV⟩,hV,fun n=>⟨za7 _,fun _ _ _ _=>rfl,fun x v _ hv=>hV x v hv,fun b ho=> .inl (hown b ho),fun hn=>by simpa [d,H'] using hn,cZ.refl _,fun b hb=> .inl (cD hsp hb)⟩⟩,rfl,rfl⟩
 ·intro i bL br bt hs hbk;obtain ⟨vI,hs',e2,_⟩:=aL _ _ _ _ hs;obtain ⟨cells,elem,g1,g2,g3,g4,g5⟩:=h.hr.back i vI br bt hs' (fun q=>hbk ⟨e2.1 q.1,q.2⟩);refine ⟨cells,elem,g1,g2,g3,.inr ⟨i,bL,br,bt,hs,hbk,rfl⟩,fun q hq=>⟨(g5 q hq).1,fun j hj=>?_⟩⟩;obtain ⟨u,hu,hv⟩:=(g5 q hq).2 j hj;exact ⟨u,hu,hV _ _ hv⟩
 ·intro i i' bL br bt vI CD o6 h1 h2 h3 h4 he hlt;obtain ⟨n0,e1,e2,e3⟩:=aL _ _ _ _ h1;obtain ⟨n1,e4,e5,e6⟩:=aL _ _ _ _ h3;have b0:¬(n0= .nil/\bt=[]):=fun q=>h2 ⟨e2.1 q.1,q.2⟩
  have b1:¬(n1= .nil/\o6=[]):=fun q=>h4 ⟨e5.1 q.1,q.2⟩
  obtain ⟨k1,k2,k3,k4⟩:=h.hr.inj i i' _ _ _ _ _ _ e1 b0 e4 b1 he hlt;refine ⟨?_,?_,k3,k4⟩
  ·by_cases hi:i=id
   ·subst hi;have q1:some (Obj.live n0 br bt)=some (.live nl sz es):=by rw [<-e1];exact hid
    injection q1 with q1;injection q1 with a1 a2 a3;subst a1;subst a2;subst a3
    have:=(hp i' n1 CD o6 (by omega) e4 b1 he.symm b0).1 hlt;have q2:some (Obj.live bL br bt)=some (.live fl br bt):=by rw [<-h1];simp [d,H',b8]
    injection q2 with q2;injection q2 with a1
    rw [a1];exact this
   ·rw [<-e3 hi];exact k1
  ·by_cases hi:i'=id
   ·subst hi;have q1:some (Obj.live n1 CD o6)=some (.live nl sz es):=by rw [<-e4];exact hid
    injection q1 with q1;injection q1 with a1 a2 a3;subst a1;subst a2;subst a3
    have:=(hp i n0 br bt (by omega) e1 b0 he b1).2 hlt;have q2:some (Obj.live vI CD o6)=some (.live fl CD o6):=by rw [<-h3];simp [d,H',b8]
    injection q2 with q2;injection q2 with a1
    rw [a1];exact this
   ·rw [<-e6 hi];exact k2
theorem XF (h:SR F c) {pl:Nat} (dg:Room c.H pl) {t u ty e:TypeId} {sz bytes:Nat} {d:TypeDesc} (ht:P.underlying t=some (.slice e)) (hu:P.underlying u=some d) (hd:(∃ e',d= .slice e')\/d= .string)
 (hsz:cW P e=some sz) (hby:bytesOf P e=some bytes) {z:List AV} (hz:zeroOf P e=some z) (hzl:z.length=sz) {id ext len:Nat} {sv xv:Value} (hs:V c (.own id ext 0 len) sv) {nl fl:Fl} {es new:List (List AV)} {arr:Array Value}
 (hid:c.H[id]?=some (.live nl sz es)) (eU:ext=es.length) (hlen:len=es.length) (CJ:(es.length+new.length)*bytes<=2 ^ 40) (Fz:es.length+new.length<=2 ^ 40) (hfl:nl.sR=some fl) (hlt:id < pl) (oR:es≠[]) (hne:new≠[])
 (l1:∀ w',(Builtin.lenOf xv).run P w'= .ok new.length w') (l2:∀ w':World,w'.heap=c.w.heap->(Builtin.firstCells sz new.length xv).run P w'= .ok arr w') (l3:arr.size=new.length*sz) (l4:Row c sz new arr) (l5:∀ u∈arr.toList,u.oneCell'=true):
 ∃ dd:Ctx,dd.H=putObj (c.H.set id (.live fl sz es)) pl (.live .ch sz (es++new))/\dR F c dd/\∃ v,(Builtin.append_ #[t,u] ty #[sv,xv]).run P c.w= .ok v dd.w/\V dd (.own pl (es.length+new.length) 0 (es.length+new.length)) v:=by
 have b8:=bn hid;subst hlen
 cases hs with
 | own _ _ _ _ _ how=>
 obtain ⟨_,_,how⟩:=how;obtain ⟨hle,how⟩:=how _ _ _ hid;obtain ⟨X1,how⟩:=how eU;rcases how with ⟨_,ic,_⟩ | ⟨hbk,cap,rfl,hcap⟩
 ·exact (oR ic).elim
 have Uj:nl.old=false:=by cases nl<;>simp [Fl.sR] at hfl<;>rfl
 have XH:fl.old=true:=by cases nl<;>simp [Fl.sR] at hfl<;>subst hfl<;>rfl
 have XI:nl.CC=true->fl.CC=true:=by cases nl<;>simp [Fl.sR] at hfl<;>subst hfl<;>simp [Fl.CC]
 have X8:nl= .nil↔fl= .nil:=by cases nl<;>simp [Fl.sR] at hfl<;>subst hfl<;>simp
 obtain ⟨d1,e1,e2,e3,e4,e5⟩:=x7 h hid X8 (fun j bL br bt hj hs kn he _=>by
  obtain ⟨k1,k2,k3,k4,k5⟩:=elder h hid hbk Uj hj hs kn he;exact ⟨fun q=>by omega,fun _=>XI k2⟩)
 have Uk:d1.H[id]?=some (.live fl sz es):=by rw [e2];simp [b8]
 have KH:∀ j,j≠id->d1.H[j]?=c.H[j]?:=fun j hj=>by rw [e2,za6 (fun q=>hj q.symm)]
 have aeV:¬(fl= .nil/\es=[]):=fun q=>oR q.2
 have sL:Room d1.H pl:=by
  rcases dg with q | q
  ·left;rw [KH pl (by omega)];exact q
  ·right;rw [e2];simpa using q
 have hno:∀ o:Obj,o≠ .ew->d1.H[pl]?≠some o:=by
  intro o ho e;rcases sL with q | q
  ·rw [q] at e;injection e with e;exact ho e.symm
  ·rw [q] at e;simp at e
 obtain ⟨cells,elem,b1,b2,b3,b4,b5⟩:=h.hr.back _ _ _ _ hid hbk;simp only [Nat.zero_mul] at hcap ⊢;have Mx:cap=c.K id:=by omega
 have hro:Row c sz es (cells.extract 0 (es.length*sz)):=by
  intro i hi;obtain ⟨g1,g2⟩:=b5 i hi;refine ⟨g1,fun j hj=>?_⟩;obtain ⟨q,hq,hv⟩:=g2 j hj;refine ⟨q,?_,hv⟩;have:=zag sz (show i+1<=es.length by omega);rw [zaC,zb2] at this;have hmul:es.length*sz<=c.K id*sz:=zag sz b3;rw [zbR];rw [if_pos (by omega),zaD];exact hq
 have hos:(cells.extract 0 (es.length*sz)).size=es.length*sz:=by
  have hmul:es.length*sz<=c.K id*sz:=zag sz b3;simp;omega
 by_cases hroom:es.length+new.length<=cap
 ·have hmul:es.length*sz+new.length*sz<=c.K id*sz:=by
   rw [<-zaC];exact zag sz (by omega)
  have hal:arr.toList.length=new.length*sz:=by simpa using l3
  have hst:=run_storeCells_at P (c.ι id) (es.length*sz) elem arr.toList 0 cells c.w b1 (by rw [hal,b2];omega) l5;simp only [zb7] at hst;generalize My:(cells.toList.take (es.length*sz)++arr.toList++cells.toList.drop (es.length*sz+arr.toList.length)).toArray=cells' at hst;have hsplit:cells'=(cells.extract 0 (es.length*sz))++arr++(cells.extract (es.length*sz+arr.size) cells.size):=by
   rw [<-My];apply zbp;simp [zah]
  have hsize:cells'.size=cells.size:=by rw [hsplit];simp;omega
  have hpre:∀ q,q < es.length*sz->cells'[q]?=cells[q]?:=by
   intro q hq;rw [hsplit,zb5 (by simp;omega),zb5 (by simp;omega),zbR,if_pos (by omega),zaD]
  obtain ⟨dd,f1,f2,f3,f4,f5,f6,f7⟩:=o7 e3.1 pl (c.ι id) (c.K id) .ch sz (es++new) cells' elem (c.w.setRow (c.ι id) cells') (putObj d1.H pl (.live .ch sz (es++new)))
   (wA _) (cB sL _) (fun j hj=> .inl (lP sL _ j hj)) (hno _ (by simp)) (Mm hno) (fun bL br bt hs=>(hno _ (by simp) hs).elim) (by simp)
   (by rw [e1];exact cZ.setRow b1) (by rw [e1];simp) (fun b _ hne=>by rw [e1];exact setRow_other c.w _ b _ hne) (setRow_heap c.w _ cells cells' elem _ b1)
   (.inr ⟨id,fl,sz,es,Uk,aeV,by rw [e4]⟩)
   (fun j bL br bt hj hs kn he=>by
    rw [e4] at he;have iT:∀ cl el,d1.w.heap[c.ι id]?=some (.cells cl el (0,0))->bt.length<=es.length->br=sz->cells'.size=cl.size/\∀ q,q < bt.length*br->cells'[q]?=cl[q]?:=by
     intro cl el iT h1 h2;rw [e1,b1] at iT;injection iT with iT;injection iT with VU aeW
     subst VU;refine ⟨hsize,fun q hq=>hpre q ?_⟩;rw [h2] at hq;have:=zag sz h1;omega
    by_cases hji:j=id
    ·subst hji;rw [Uk] at hs;injection hs with hs;injection hs with a1 a2 a3;subst a1;subst a2;subst a3
     exact ⟨XH,rfl,rfl,by simp,hlt,fun cl el q=>iT cl el q (za7 _) rfl⟩
    ·rw [KH j hji] at hs;obtain ⟨k1,k2,k3,k4,k5⟩:=elder h hid hbk Uj hji hs kn he;exact ⟨k1,rfl,k3,by simp;omega,by omega,fun cl el q=>iT cl el q k4 k3⟩)
   (by rw [hsize,b2]) (by rw [za8];omega) (by
    rw [hsplit];exact Row.hY (eK hro hos l4 l3) e3.2.1)
  refine ⟨dd,by rw [f2,e2],dR.trans e3 ⟨f3,f4,f5⟩,.slice (some ⟨c.ι id,0,none⟩) (es.length+new.length) cap,?_,.own _ _ _ _ _ ⟨by rw [Has,f2];exact ⟨pS sL _,by rw [cB sL];simp⟩,⟨_,_,rfl⟩,fun nl' Be Lq hs'=>?_⟩⟩
  ·rw [sB (P:=P) (ty:=ty) ht hu hd hsz c.w (l1 c.w) (l2 c.w rfl) hroom hst,f1]
  ·rw [f2,cB sL] at hs';simp at hs';obtain ⟨rfl,rfl,rfl⟩:=hs';exact ⟨by simp,fun _=>⟨by simp,.inr ⟨by simp,cap,by simp [f6],by simp [f7,Mx]⟩⟩⟩
 ·have hfo:∀ w':World,w'.heap=c.w.heap->(Builtin.firstCells sz es.length (.slice (some ⟨c.ι id,0,none⟩) es.length cap)).run P w'= .ok (cells.extract 0 (es.length*sz)) w':=by
   intro w' hw;simp only [Builtin.firstCells];have hmul:es.length*sz<=c.K id*sz:=zag sz b3;rw [run_loadCells (P:=P) w' ⟨c.ι id,0,none⟩ (es.length*sz) (fun q=>(cells[q]?).getD undef) (fun q hq=>by
    rw [add_eq,zaD];simp only [World.cell?,hw,b1];have:q < cells.size:=by rw [b2];omega
    simp [this])]
   congr 1;apply Array.ext
   ·simp;omega
   ·intro q h1 h2;simp at h1 h2;have:q < cells.size:=by omega
    simp [this]
  obtain ⟨cap',rest,k,ae8,lq,hrun⟩:=mQ (P:=P) (ty:=ty) ht hu hd hsz hby hz hzl c.w (l1 c.w) l2 hfo (by omega) CJ Fz;obtain ⟨hS,KT,hF⟩:=e3.1.drawn k;have hrow:Row { d1 with w:={ d1.w with drawn:=k } } sz (es++new) (cells.extract 0 (es.length*sz)++arr++rest):=Row.hY (Row.hY (eK hro hos l4 l3) e3.2.1) KT;obtain ⟨dd,f1,f2,f3,f4,f5,f6,f7⟩:=o7 hS pl d1.w.heap.size cap' .ch sz (es++new) (cells.extract 0 (es.length*sz)++arr++rest) e { d1.w with drawn:=k,heap:=d1.w.heap.push (.cells (cells.extract 0 (es.length*sz)++arr++rest) e) } (putObj d1.H pl (.live .ch sz (es++new)))
   (wA _) (cB sL _) (fun j hj=> .inl (lP sL _ j hj)) (hno _ (by simp)) (Mm hno) (fun bL br bt hs=>(hno _ (by simp) hs).elim) (by simp)
   (cZ.push { d1.w with drawn:=k } (cells.extract 0 (es.length*sz)++arr++rest) e k) (by simp) (fun b hlt' _=>by simp only [zbx];rw [if_neg (by have:b < d1.w.heap.size:=hlt';omega)])
   (by simp) (.inl rfl) (fun j bL br bt _ hs kn he=>(xQ hS hs kn he).elim) (by
    simp only [Array.size_append,l3,hos,lq,<-zaC];congr 1;omega) (by simp;omega) hrow
  refine ⟨dd,by rw [f2,e2],dR.trans e3 (dR.trans ⟨hS,KT,hF⟩ ⟨f3,f4,f5⟩),.slice (some ⟨c.w.heap.size,0,none⟩) (es.length+new.length) cap',by rw [hrun,f1,e1],.own _ _ _ _ _ ⟨by rw [Has,f2];exact ⟨pS sL _,by rw [cB sL];simp⟩,⟨_,_,rfl⟩,fun nl' Be Lq hs'=>?_⟩⟩;rw [f2,cB sL] at hs';simp at hs';obtain ⟨rfl,rfl,rfl⟩:=hs';exact ⟨by simp,fun _=>⟨by simp,.inr ⟨by simp,cap',by simp [f6,e1],by simp [f7]⟩⟩⟩
theorem Cn {t u ty e:TypeId} {sz bytes:Nat} {k:IntKind} (ht:P.underlying t=some (.slice e)) (hu:P.underlying u=some (.int k))
 (hsz:cW P e=some sz) (hby:bytesOf P e=some bytes) {i:TypeInfo} {zv:Value} (hi:P.info? e=some i) (Cu:i.zero=some zv) (hzl:zv.cells.size=sz) {m:Nat} (w:World)
 (h0:0 < m) (CJ:m*bytes<=2 ^ 40) (Fz:m<=2 ^ 40):
 ∃ cap rest q,m<=cap/\rest.size=(cap - m)*sz/\
  (Builtin.append_ #[t,u] ty #[.slice none 0 0,.int .i64 m]).run P w=
   .ok (.slice (some ⟨w.heap.size,0,none⟩) m cap) { w with drawn:=q,heap:=w.heap.push (.cells ((if m*sz=0 then #[] else Builtin.zeroCells zv.cells m)++rest) e) }:=by
 have hib:i.bytes=bytes:=by
  unfold bytesOf at hby;rw [hi] at hby;injection hby
 let cap:=(Question.appendCap m 0 e).cut (w.tape w.drawn (.appendCap m 0 e));have hge:m<=cap:=by simp [cap,Question.cut]
 have h40:(2:Nat)^40=1099511627776:=by decide
 have hwrap:IntKind.i64.wrap (m:Int)=m:=by
  unfold IntKind.wrap;have e1:(2:Int) ^ IntKind.i64.bits=18446744073709551616:=by decide
  have e2:(2:Int) ^ (IntKind.i64.bits - 1)=9223372036854775808:=by decide
  simp only [e1,e2,IntKind.signed];have e3:(m:Int) % 18446744073709551616=m:=Int.emod_eq_of_lt (by omega) (by omega);rw [e3,if_neg];simp only [zaS,decide_eq_true_eq];omega
 refine ⟨cap,Builtin.zeroCells zv.cells (cap - m),w.drawn+1,hge,?_,?_⟩
 ·rw [size_zeroCells,hzl]
 ·have h63:¬ (((0+m:Nat):Int) > IntKind.i64.max/\(True\/bytes=0)):=by
   have h2:IntKind.i64.max=9223372036854775807:=by decide
   rw [h2];omega
  have h48:=fits (bytes:=bytes) (need:=0+m) (old:=0) (by omega) (by simpa using CJ);have hneg:¬ ((m:Int) < 0):=by omega
  have hmul:¬ ((m:Int)*(bytes:Int) > 2 ^ 48):=by
   have afk:(2:Int)^48=281474976710656:=by decide
   have:((m*bytes:Nat):Int)=(m:Int)*bytes:=by simp
   omega
  have Fw:∀ w,(typeInfo e).run P w= .ok i w:=fun w=>by simp [typeInfo,hi]
  have VT:(Question.appendCap (0+m) 0 e).forced=false:=rfl;have hfo:∀ w':World,(Builtin.firstCells sz 0 (.slice none 0 0)).run P w'= .ok #[] w':=fun w'=>by simp [Builtin.firstCells]
  have hroom:¬ (0+m<=0):=by omega
  unfold Builtin.append_;simp only [zbz,zaq,zbE,Sem.run_bind,aA ht,aA hu,Result.andThen_ok,bZ hsz,Sem.run_pure,
   if_true,asInt,asIntOf,hwrap,Sem.run_ite,hneg,if_false,Fw,hib,hmul,zaw,hroom]
  rw [if_neg h63];simp only [h48,if_false,run_choose,VT,run_askRoom,Result.andThen_ok,hfo,zb1,za9];by_cases YO:m*sz=0
  ·simp only [YO,if_true,Sem.run_pure,Result.andThen_ok,ff hi Cu,dx,zaD,Array.empty_append];rfl
  ·simp only [YO,if_false,Sem.run_pure,Result.andThen_ok,ff hi Cu,dx,zaD,Array.empty_append];rfl
theorem Pv (h:SR F c) {pl:Nat} (dg:Room c.H pl) {t u ty e:TypeId} {sz bytes:Nat} {d:TypeDesc} (ht:P.underlying t=some (.slice e)) (hu:P.underlying u=some d) (hd:(∃ e',d= .slice e')\/d= .string)
 (hsz:cW P e=some sz) (hby:bytesOf P e=some bytes) {z:List AV} (hz:zeroOf P e=some z) (hzl:z.length=sz) {s x r:AV} {sv xv:Value} (hs:V c s sv) (hx:V c x xv) {H':List Obj}
 (ha:append c.H pl sz bytes s x=some (r,H')):∃ dd:Ctx,dd.H=H'/\dR F c dd/\∃ v,(Builtin.append_ #[t,u] ty #[sv,xv]).run P c.w= .ok v dd.w/\V dd r v:=by
 unfold append at ha;split at ha
 case h_1=>simp at ha
 rename_i new hnew;split at ha
 case isFalse=>simp at ha
 rename_i hall;obtain ⟨arr,l1,l2,l3,l4,l5⟩:=TD (P:=P) h.hr hx hnew hall;split at ha
 ·cases hs;split at ha
  ·rename_i hne;subst hne;simp only [za2,za4] at ha;obtain ⟨rfl,rfl⟩:=ha;refine ⟨c,rfl,dR.refl h,.slice none 0 0,?_,.bF⟩;have m7:arr=#[]:=by simpa using l3
   have q1:=l1 c.w;have q2:=l2 c.w rfl;simp only [List.length_nil] at q1 q2;unfold Builtin.append_;rcases hd with ⟨e',rfl⟩ | rfl
   all_goals simp [aA ht,aA hu,bZ hsz,q1,q2]
  ·rename_i hne;split at ha
   case isFalse=>simp at ha
   rename_i hb;simp only [za2,za4] at ha;obtain ⟨rfl,rfl⟩:=ha;have h0:0 < new.length:=zb3.2 hne;obtain ⟨cap,rest,k,hcap,lq,hrun⟩:=mQ (P:=P) (ty:=ty) ht hu hd hsz hby hz hzl c.w (l1 c.w) l2 (base:=none) (sLen:=0) (sCap:=0) (old:=#[])
    (fun w' _=>by simp [Builtin.firstCells]) (by omega) (by simpa using hb.1) (by simpa using hb.2)
   obtain ⟨hS,KT,hF⟩:=h.drawn k;have hrow:Row c sz ([]++new) (#[]++arr++rest):=eK (fun i hi=>by simp at hi) (by simp) l4 l3;simp only [zc3] at hrow;obtain ⟨dd,d1,d2,d3,d4⟩:=mL hS dg cap sz new (#[]++arr++rest) e (by
    simp only [Array.empty_append,Array.size_append,l3,lq,<-zaC];congr 1;omega) (by omega) (Row.hY hrow KT)
   refine ⟨dd,d2,dR.trans ⟨hS,KT,hF⟩ d3,_,?_,d4⟩;rw [hrun,d1];simp
 ·rename_i id ext off len;split at ha
  case h_2=>simp at ha
  rename_i sz' es hl;obtain ⟨nl,hid⟩:=bB hl;split at ha
  case isFalse=>simp at ha
  rename_i hc;obtain ⟨eU,rfl,hlen,rfl,CJ,Fz⟩:=hc;have qC:cy c.H id=nl:=by simp [cy,hid]
  rw [qC] at ha;have b8:=bn hid;split at ha
  case isFalse hg=>
   split at ha
   case h_2=>simp at ha
   rename_i fl hfl;split at ha
   case isFalse=>simp at ha
   rename_i hq;obtain ⟨sL,oR,hne⟩:=hq;simp only [za2,za4] at ha;obtain ⟨rfl,rfl⟩:=ha;exact XF h dg ht hu hd hsz hby hz hzl hs hid eU hlen CJ Fz hfl sL oR hne l1 l2 l3 l4 l5
  rename_i hg;simp only [za2,za4] at ha;obtain ⟨rfl,rfl⟩:=ha;have hold:nl.old=false:=by cases nl<;>simp [Fl.uf] at hg<;>rfl
  cases hs with
  | own _ _ _ _ _ how=>
  obtain ⟨_,_,how⟩:=how;obtain ⟨hle,how⟩:=how _ _ _ hid;obtain ⟨X1,how⟩:=how eU;have grow:∀ (base:Option Addr) (sCap:Nat) (old:Array Value),(∀ w':World,w'.heap=c.w.heap->(Builtin.firstCells sz' es.length (.slice base es.length sCap)).run P w'= .ok old w')->
   Row c sz' es old->old.size=es.length*sz'->sCap < es.length+new.length->new≠[]->
   ∃ dd:Ctx,dd.H=c.H.set id (.live nl sz' (es++new))/\dR F c dd/\∃ v,(Builtin.append_ #[t,u] ty #[.slice base es.length sCap,xv]).run P c.w= .ok v dd.w/\
    V dd (.own id (es.length+new.length) 0 (es.length+new.length)) v:=by
   intro base sCap old hfo hro hos hroom hne;obtain ⟨cap,rest,k,hcap,lq,hrun⟩:=mQ (P:=P) (ty:=ty) ht hu hd hsz hby hz hzl c.w (l1 c.w) l2 hfo hroom CJ Fz;obtain ⟨hS,KT,hF⟩:=h.drawn k;have hrow:Row { c with w:={ c.w with drawn:=k } } sz' (es++new) (old++arr++rest):=Row.hY (eK hro hos l4 l3) KT;obtain ⟨dd,d1,d2,d3,d4,d5,d6,d7⟩:=o7 hS id c.w.heap.size cap nl sz' (es++new) (old++arr++rest) e { c.w with drawn:=k,heap:=c.w.heap.push (.cells (old++arr++rest) e) } (c.H.set id (.live nl sz' (es++new)))
    (by simp) (by simp [b8]) (fun j hj=>by left;rw [za6 (fun q=>hj q.symm)]) (by rw [hid];simp) (wg hid)
    (fun bL br bt h0=>by
     have h0':c.H[id]?=some (.live bL br bt):=h0;rw [hid] at h0';injection h0' with h0';injection h0' with q1 q2 q3
     subst q1;subst q2;subst q3;refine ⟨rfl,rfl,by simp,fun hh=>?_⟩;exfalso;simp at hh;exact hne hh)
    (by rintro ⟨_,q⟩;simp at q;exact hne q.2) (cZ.push { c.w with drawn:=k } (old++arr++rest) e k) (by simp) (fun b hlt _=>by simp only [zbx];rw [if_neg (by have:b < c.w.heap.size:=hlt;omega)])
    (by simp) (.inl rfl) (fun j bL br bt _ hs hbk he=>(xQ hS hs hbk he).elim) (by
     simp only [Array.size_append,l3,hos,lq,<-zaC];congr 1;omega) (by simp;omega) hrow
   refine ⟨dd,d2,dR.trans ⟨hS,KT,hF⟩ ⟨d3,d4,d5⟩,_,by rw [hrun,d1],.own _ _ _ _ _ ⟨by rw [Has,d2];simp [b8],⟨_,_,rfl⟩,fun nl' Be Lq hs'=>?_⟩⟩;rw [d2] at hs';simp [b8] at hs';obtain ⟨rfl,rfl,rfl⟩:=hs';refine ⟨by simp,fun _=>⟨by simp,.inr ⟨by rintro ⟨_,q⟩;simp at q;exact hne q.2,cap,by simp [d6],by simp [d7]⟩⟩⟩
  rcases how with ⟨aeX,oR,rfl⟩ | ⟨hbk,cap,rfl,hcap⟩
  ·subst oR;have T3:len=0:=by simpa using hlen
   by_cases hne:new=[]
   ·subst hne;have hH:c.H.set id (.live nl sz' ([]++[]))=c.H:=by
     apply zbL
     intro j;by_cases hj:j=id
     ·subst hj;simp [b8];exact (zab.1 hid).2.symm
     ·rw [za6 (fun q=>hj q.symm)]
    refine ⟨c,hH.symm,dR.refl h,.slice none 0 0,?_,.own _ _ _ _ _ ⟨⟨b8,by rw [hid];simp⟩,⟨_,_,rfl⟩,fun nl' Be Lq hs'=>?_⟩⟩
    ·have q1:=l1 c.w;have q2:=l2 c.w rfl;simp only [List.length_nil] at q1 q2;unfold Builtin.append_;rcases hd with ⟨e',rfl⟩ | rfl
     all_goals simp [aA ht,aA hu,bZ hsz,q1,q2]
    ·rw [hid] at hs';injection hs' with hs';injection hs' with q1 q2 q3
     subst q1;subst q2;subst q3;exact ⟨by simp,fun _=>⟨by simp,.inl ⟨aeX,rfl,rfl⟩⟩⟩
   ·have h0:0 < new.length:=zb3.2 hne;exact grow none 0 #[] (fun w' _=>by simp [Builtin.firstCells]) (fun i hi=>by simp at hi) (by simp) (by simp;omega) hne
  ·obtain ⟨cells,elem,b1,b2,b3,b4,b5⟩:=h.hr.back _ _ _ _ hid hbk;simp only [Nat.zero_mul] at hcap ⊢;have Mx:cap=c.K id:=by omega
   subst hlen;by_cases hroom:es.length+new.length<=cap
   ·have hmul:es.length*sz'+new.length*sz'<=c.K id*sz':=by
     rw [<-zaC];exact zag sz' (by omega)
    have hal:arr.toList.length=new.length*sz':=by simpa using l3
    have hst:=run_storeCells_at P (c.ι id) (es.length*sz') elem arr.toList 0 cells c.w b1 (by rw [hal,b2];omega) l5;simp only [zb7] at hst;generalize My:(cells.toList.take (es.length*sz')++arr.toList++cells.toList.drop (es.length*sz'+arr.toList.length)).toArray=cells' at hst;have hsplit:cells'=(cells.extract 0 (es.length*sz'))++arr++(cells.extract (es.length*sz'+arr.size) cells.size):=by
     rw [<-My];apply zbp;simp [zah]
    have hos:(cells.extract 0 (es.length*sz')).size=es.length*sz':=by simp;omega
    have hro:Row c sz' es (cells.extract 0 (es.length*sz')):=by
     intro i hi;obtain ⟨g1,g2⟩:=b5 i hi;refine ⟨g1,fun j hj=>?_⟩;obtain ⟨q,hq,hv⟩:=g2 j hj;refine ⟨q,?_,hv⟩;have:=zag sz' (show i+1<=es.length by omega);rw [zaC,zb2] at this;rw [zbR];rw [if_pos (by omega),zaD];exact hq
    have hsize:cells'.size=cells.size:=by rw [hsplit];simp;omega
    obtain ⟨dd,d1,d2,d3,d4,d5,d6,d7⟩:=o7 h id (c.ι id) (c.K id) nl sz' (es++new) cells' elem (c.w.setRow (c.ι id) cells') (c.H.set id (.live nl sz' (es++new)))
     (by simp) (by simp [b8]) (fun j hj=>by left;rw [za6 (fun q=>hj q.symm)]) (by rw [hid];simp) (wg hid)
     (fun bL br bt h0=>by
      rw [hid] at h0;injection h0 with h0;injection h0 with q1 q2 q3
      subst q1;subst q2;subst q3;exact ⟨rfl,rfl,by simp,fun _=>⟨hbk,rfl,rfl⟩⟩)
     (by rintro ⟨q1,q⟩;simp at q;exact hbk ⟨q1,q.1⟩) (cZ.setRow b1) (by simp) (fun b _ hne=>setRow_other c.w _ b _ hne)
     (setRow_heap c.w _ cells cells' elem _ b1) (.inr ⟨id,nl,sz',es,hid,hbk,rfl⟩)
     (fun j bL br bt hj hs kn he=>by
      obtain ⟨k1,k2,k3,k4,k5⟩:=elder h hid hbk hold hj hs kn he;refine ⟨k1,k2,k3,by simp;omega,k5,fun cl el iT=>?_⟩;rw [b1] at iT;injection iT with iT;injection iT with VU aeW
      subst VU;refine ⟨hsize,fun q hq=>?_⟩;have hm:=zag sz' k4;rw [k3] at hq;rw [hsplit,zb5 (by simp;omega),zb5 (by simp;omega),zbR,if_pos (by omega),zaD])
     (by rw [hsize,b2]) (by rw [za8];omega) (by rw [hsplit];exact eK hro hos l4 l3)
    refine ⟨dd,d2,⟨d3,d4,d5⟩,.slice (some ⟨c.ι id,0,none⟩) (es.length+new.length) cap,?_,.own _ _ _ _ _ ⟨by rw [Has,d2];simp [b8],⟨_,_,rfl⟩,fun nl' Be Lq hs'=>?_⟩⟩
    ·rw [sB (P:=P) (ty:=ty) ht hu hd hsz c.w (l1 c.w) (l2 c.w rfl) hroom hst,d1]
    ·rw [d2] at hs';simp [b8] at hs';obtain ⟨rfl,rfl,rfl⟩:=hs';refine ⟨by simp,fun _=>⟨by simp,.inr ⟨by rintro ⟨q1,q⟩;simp at q;exact hbk ⟨q1,q.1⟩,cap,by simp [d6],by simp [d7,Mx]⟩⟩⟩
   ·by_cases hne:new=[]
    ·subst hne;simp at hroom;omega
    ·have hfo:∀ w':World,w'.heap=c.w.heap->(Builtin.firstCells sz' es.length (.slice (some ⟨c.ι id,0,none⟩) es.length cap)).run P w'= .ok (cells.extract 0 (es.length*sz')) w':=by
      intro w' hw;simp only [Builtin.firstCells];have hmul:es.length*sz'<=c.K id*sz':=zag sz' b3;rw [run_loadCells (P:=P) w' ⟨c.ι id,0,none⟩ (es.length*sz') (fun q=>(cells[q]?).getD undef) (fun q hq=>by
       rw [add_eq,zaD];simp only [World.cell?,hw,b1];have:q < cells.size:=by rw [b2];omega
       simp [this])]
      congr 1;apply Array.ext
      ·simp;omega
      ·intro q h1 h2;simp at h1 h2;have:q < cells.size:=by omega
       simp [this]
     have hro:Row c sz' es (cells.extract 0 (es.length*sz')):=by
      intro i hi;obtain ⟨g1,g2⟩:=b5 i hi;refine ⟨g1,fun j hj=>?_⟩;obtain ⟨q,hq,hv⟩:=g2 j hj;refine ⟨q,?_,hv⟩;have:=zag sz' (show i+1<=es.length by omega);rw [zaC,zb2] at this;have hmul:es.length*sz'<=c.K id*sz':=zag sz' b3;rw [zbR];rw [if_pos (by omega),zaD];exact hq
     exact grow _ cap _ hfo hro (by
      have hmul:es.length*sz'<=c.K id*sz':=zag sz' b3;simp;omega) (by omega) hne
 ·simp at ha
end
end Go.Am
end
