/- Stores and appends: what the abstract machine says of them, the program's run does. Condition: the state's relation. -/
import Derived.Test.YtafgdbaekppjcaaGreatDoorAmO
import Derived.Laws.AppendOwn
set_option linter.unusedSectionVars false
set_option linter.unusedVariables false
set_option linter.unusedSimpArgs false
namespace Go.Am
section
variable {P:Program} {F:Fo} {c:Ctx}
theorem NL (h:SR F c) {t:TypeId} {n:Nat} (hn:cV P t=some n) {p x:AV} {pv xv:Value} (hp:V c p pv) (hx:V c x xv) {H':List Obj}
 (hs:storeAt c.H n p x=some H'):∃ d:Ctx,d.H=H'/\dD F c d/\(Instr.storeAt t pv xv).run P c.w= .ok () d.w:=by
 unfold storeAt at hs;split at hs
 case h_2=>simp at hs
 rename_i id ext e o;split at hs
 case h_2=>simp at hs
 rename_i sz es hl;obtain ⟨nl,hid⟩:=bu hl;split at hs
 case isFalse=>simp at hs
 rename_i hc;obtain ⟨eG,hxn,Th,hone,hfree⟩:=hc;split at hs
 case h_2=>simp at hs
 rename_i cs hcs;obtain ⟨he,rfl⟩:=List.getElem?_eq_some_iff.1 hcs;injection hs with hs
 have o4:cw c.H id=nl:=by simp [cw,hid]
 rw [o4] at hs hfree
 cases hp with
 | ax _ _ _ _ _ GV=>
 obtain ⟨⟨cu,_⟩,a,rfl,hsp,GV⟩:=GV;have ha:=(GV _ _ _ hid).2 eG;subst ha;have hbk:¬(nl= .nil/\es=[]):=by rintro ⟨_,rfl⟩;simp at he
 obtain ⟨cells,elem,b1,b2,b3,b4,b5⟩:=h.hr.back id nl sz es hid hbk;obtain ⟨sJ,V9⟩:=td hx hone;have aex:es[e].length=sz:=(b5 e he).1;have hmul:e*sz+sz<=c.K id*sz:=by
  have:=Nat.mul_le_mul_right sz (show e+1<=c.K id by omega);rw [Nat.add_mul,Nat.one_mul] at this;exact this
 have Aq:xv.cells.toList.length=n:=by simp [sJ.1,hxn]
 have hst:=run_storeCells_at P (c.ι id) (e*sz+o) elem xv.cells.toList 0 cells c.w b1 (by rw [Aq,b2];omega) V9;simp only [Nat.add_zero] at hst;generalize hnew:(cells.toList.take (e*sz+o)++xv.cells.toList++cells.toList.drop (e*sz+o+xv.cells.toList.length)).toArray=cells' at hst;have hsize:cells'.size=cells.size:=by rw [<-hnew];simp;simp at Aq;omega
 have aN:∀ q,cells'[q]?=if e*sz+o<=q/\q < e*sz+o+n then xv.cells[q - (e*sz+o)]? else cells[q]?:=by
  intro q;rw [<-hnew];simp only [List.getElem?_toArray];have PC:(cells.toList.take (e*sz+o)).length=e*sz+o:=by simp;omega
  by_cases h1:e*sz+o<=q/\q < e*sz+o+n
  ·rw [if_pos h1,List.append_assoc,List.getElem?_append_right (by omega),PC,List.getElem?_append_left (by rw [Aq];omega)];simp
  ·rw [if_neg h1];rcases Nat.lt_or_ge q (e*sz+o) with h2 | h2
   ·rw [List.append_assoc,List.getElem?_append_left (by omega)];rw [List.getElem?_take_of_lt h2];simp
   ·rw [List.getElem?_append_right (by simp at Aq ⊢;omega)];simp only [List.length_append,PC,Aq,List.getElem?_drop];have:e*sz+o+n+(q - (e*sz+o+n))=q:=by omega
    rw [this];simp
 obtain ⟨d,d1,d2,d3,d4,d5,_,_⟩:=sg h id (c.ι id) (c.K id) nl sz (es.set e (putAt es[e] o x.cells)) cells' elem (c.w.setRow (c.ι id) cells') H'
  (by rw [<-hs];simp) (by rw [<-hs];simp [cu]) (fun j hj=>by left;rw [<-hs,List.getElem?_set_ne (fun q=>hj q.symm)])
  (by rw [hid];simp) (Az hid) (fun bU bt bw h0=>by
   rw [hid] at h0;injection h0 with h0;injection h0 with q1 q2 q3
   subst q1;subst q2;subst q3;exact ⟨rfl,rfl,by simp,fun _=>⟨hbk,rfl,rfl⟩⟩)
  (by rintro ⟨q1,q2⟩;have:=congrArg List.length q2;simp at this;exact hbk ⟨q1,this⟩)
  (c7.setRow b1) (by simp) (fun b _ hne=>setRow_other c.w _ b _ hne) (setRow_heap c.w _ cells cells' elem _ b1) (.inr ⟨id,nl,sz,es,hid,hbk,rfl⟩)
  (fun j bU bt bw hj hs0 jA FH=>(alone h hid hbk hfree hj hs0 jA FH).elim) (by rw [hsize,b2]) (by simpa using b3) (by
   intro i hi;simp at hi;by_cases Ou:e=i
   ·subst Ou;simp only [List.getElem_set_self];refine ⟨by rw [cc];exact aex,fun j hj=>?_⟩;rw [cc] at hj;rw [aN];by_cases hr:o<=j/\j < o+n
    ·rw [if_pos (by omega)];have e1:e*sz+j - (e*sz+o)=j - o:=by omega
     have hlt:j - o < xv.cells.size:=by simp at Aq;omega
     refine ⟨xv.cells[j - o],by rw [e1];simp [hlt],?_⟩;rw [kz _ _ _ _ (by rw [cc];exact hj) (by omega),dif_pos (by omega)];exact sJ.2 (j - o) (by omega) hlt
    ·rw [if_neg (by omega)];obtain ⟨u,hu,hv⟩:=(b5 e he).2 j hj;refine ⟨u,hu,?_⟩;rw [kz _ _ _ _ (by rw [cc];exact hj) (by omega),dif_neg (by omega)];exact hv
   ·have hg:(es.set e (putAt es[e] o x.cells))[i]'(by simp;exact hi)=es[i]:=by rw [List.getElem_set_ne Ou]
    obtain ⟨g1,g2⟩:=b5 i hi;refine ⟨by rw [hg];exact g1,fun j hj=>?_⟩;have hj2:j < es[i].length:=by rw [hg] at hj;exact hj
    obtain ⟨u,hu,hv⟩:=g2 j hj2;refine ⟨u,?_,?_⟩
    ·rw [aN,if_neg]
     ·exact hu
     ·rintro ⟨a1,a2⟩;have hjs:j < sz:=by omega
      rcases Nat.lt_or_ge i e with q | q
      ·have:=Nat.mul_le_mul_right sz (show i+1<=e by omega);rw [Nat.add_mul,Nat.one_mul] at this;omega
      ·have:=Nat.mul_le_mul_right sz (show e+1<=i by omega);rw [Nat.add_mul,Nat.one_mul] at this;omega
    ·have:(es.set e (putAt es[e] o x.cells))[i][j]'hj=es[i][j]:=by simp only [hg]
     rw [this];exact hv)
 refine ⟨d,d2,⟨d3,d4,d5⟩,?_⟩;rw [d1];simp only [Instr.storeAt,Instr.sureAddr,Sem.run_bind,Sem.run_pure,Result.andThen_ok,storeVar,b8 hn];rw [if_neg (by simp at Aq;simp [Aq])];exact hst
theorem OK (hr:HR c) {x:AV} {xv:Value} {sz:Nat} {new:List (List AV)} (hx:V c x xv) (h:di c.H x=some new)
 (hall:(new.all fun e=>e.length==sz&&aX e)=true):
 ∃ arr:Array Value,(∀ w',(Builtin.lenOf xv).run P w'= .ok new.length w')/\(∀ w':World,w'.heap=c.w.heap->(Builtin.firstCells sz new.length xv).run P w'= .ok arr w')/\
  arr.size=new.length*sz/\Row c sz new arr/\∀ u∈arr.toList,u.oneCell'=true:=by
 have hlen:∀ i (hi:i < new.length),new[i].length=sz/\aX new[i]=true:=by
  intro i hi;have:=List.all_eq_true.1 hall _ (List.getElem_mem hi);simpa using this
 have hlt:∀ i j,i < new.length->j < sz->i*sz+j < new.length*sz:=by
  intro i j hi hj;have:=Nat.mul_le_mul_right sz (show i+1<=new.length by omega);rw [Nat.add_mul,Nat.one_mul] at this;omega
 have key:∀ (f:Nat->Nat->Value),(∀ i j (hi:i < new.length) (hj:j < new[i].length),V c new[i][j] (f i j))->
  ∀ arr:Array Value,arr.size=new.length*sz->(∀ i j,i < new.length->j < sz->arr[i*sz+j]?=some (f i j))->
  Row c sz new arr/\∀ u∈arr.toList,u.oneCell'=true:=by
  intro f hf arr hs hg;refine ⟨fun i hi=>⟨(hlen i hi).1,fun j hj=>⟨f i j,hg i j hi (by rw [<-(hlen i hi).1];exact hj),hf i j hi hj⟩⟩,fun u hu=>?_⟩;obtain ⟨q,hq,rfl⟩:=List.getElem_of_mem hu;simp at hq;have tY:0 < sz:=by
   rcases Nat.eq_zero_or_pos sz with e | e
   ·rw [e,Nat.mul_zero] at hs;omega
   ·exact e
  have Oz:q / sz < new.length:=by rw [Nat.div_lt_iff_lt_mul tY];omega
  have hqj:q % sz < sz:=Nat.mod_lt _ tY;have X8:q / sz*sz+q % sz=q:=by rw [Nat.mul_comm];exact Nat.div_add_mod q sz
  have:=hg _ _ Oz hqj;rw [X8] at this;have hqs:q < arr.size:=hq;rw [Array.getElem?_eq_getElem hqs] at this;injection this with this
  simp only [Array.getElem_toList];rw [this];obtain ⟨l1,l2⟩:=hlen _ Oz;exact (rz (hf _ _ Oz (by rw [l1];exact hqj)) (oK l2 _ (List.getElem_mem _))).2
 have rowAt:∀ (a:Addr) (f:Nat->Nat->Value),(new≠[]->0 < sz->a.spot=none)->
  (∀ i j,i < new.length->j < sz->c.w.cell? ⟨a.block,a.off+i*sz+j,none⟩=some (f i j))->
  ∀ (w':World),w'.heap=c.w.heap->∀ len cap,(Builtin.firstCells sz new.length (.slice (some a) len cap)).run P w'=
   .ok ((List.range (new.length*sz)).map fun q=>f (q / sz) (q % sz)).toArray w':=by
  intro a f hsp hf w' hw len cap;simp only [Builtin.firstCells];refine run_loadCells (P:=P) w' a (new.length*sz) (fun q=>f (q / sz) (q % sz)) (fun q hq=>?_);have tY:0 < sz:=by
   rcases Nat.eq_zero_or_pos sz with e | e
   ·rw [e] at hq;simp at hq
   ·exact e
  have hne:new≠[]:=by rintro rfl;simp at hq
  rw [jj a q (hsp hne tY)];have Oz:q / sz < new.length:=by rw [Nat.div_lt_iff_lt_mul tY];exact hq
  have X8:q / sz*sz+q % sz=q:=by rw [Nat.mul_comm];exact Nat.div_add_mod q sz
  have:=hf (q / sz) (q % sz) Oz (Nat.mod_lt _ tY);rw [Nat.add_assoc,X8] at this;rw [<-this];simp [World.cell?,hw]
 have Cq:∀ (f:Nat->Nat->Value),(((List.range (new.length*sz)).map fun q=>f (q / sz) (q % sz)).toArray).size=new.length*sz/\
  ∀ i j,i < new.length->j < sz->(((List.range (new.length*sz)).map fun q=>f (q / sz) (q % sz)).toArray)[i*sz+j]?=some (f i j):=by
  intro f;refine ⟨by simp,fun i j hi hj=>?_⟩;have h1:=hlt i j hi hj;have tY:0 < sz:=by omega
  have e1:(i*sz+j) / sz=i:=by rw [Nat.add_comm,Nat.add_mul_div_right _ _ tY,Nat.div_eq_of_lt hj,Nat.zero_add]
  have e2:(i*sz+j) % sz=j:=by rw [Nat.add_comm,Nat.add_mul_mod_self_right];exact Nat.mod_eq_of_lt hj
  simp [h1,e1,e2]
 unfold di at h;split at h
 ·injection h with h;subst h
  cases hx;exact ⟨#[],fun w'=>rfl,fun w' _=>by simp [Builtin.firstCells],by simp,fun i hi=>by simp at hi,by simp⟩
 ·injection h with h;subst h
  rename_i new
  cases hx with
  | Ab=>exact ⟨#[],fun w'=>rfl,fun w' _=>by simp [Builtin.firstCells],by simp,fun i hi=>by simp at hi,by simp⟩
  | ro _ a cap sz' vs hb0 hcap h1 h2 h3 h4=>
   by_cases hne:new=[]
   ·subst hne;exact ⟨#[],fun w'=>rfl,fun w' _=>by simp [Builtin.firstCells,loadCells,loadCellsFrom],by simp,fun i hi=>by simp at hi,by simp⟩
   ·have h0:0 < new.length:=List.length_pos_iff.2 hne;have hs':sz'=sz:=by rw [<-h2 0 h0];exact (hlen 0 h0).1
    subst hs';obtain ⟨r1,r2⟩:=Cq vs;obtain ⟨k1,k2⟩:=key vs h4 _ r1 r2;refine ⟨_,fun w'=>rfl,fun w' hw=>rowAt a vs (fun a b=>(h1 a b).1) (fun i j hi hj=>h3 i j hi (by rw [h2];exact hj)) w' hw _ _,r1,k1,k2⟩
 ·rename_i id ext off len;split at h
  case h_2=>simp at h
  rename_i sz' es hl;obtain ⟨nl,hid⟩:=bu hl;split at h
  case isFalse=>simp at h
  rename_i eG;injection h with h;subst h
  cases hx with
  | own _ _ _ _ _ how=>
   obtain ⟨hlt',_,how⟩:=how;obtain ⟨hle,how⟩:=how _ _ _ hid;obtain ⟨S5,how⟩:=how eG;have o4:((es.drop off).take len).length=len:=by simp;omega
   rcases how with ⟨_,qI,rfl⟩ | ⟨hbk,cap,rfl,hcap⟩
   ·subst qI;have D6:len=0:=by simp at o4;omega
    subst D6;exact ⟨#[],fun w'=>by simp [Builtin.lenOf],fun w' _=>by simp [Builtin.firstCells],by simp,fun i hi=>by simp at hi,by simp⟩
   ·obtain ⟨cells,elem,b1,b2,b3,b4,b5⟩:=hr.back _ _ _ _ hid hbk;by_cases D6:len=0
    ·subst D6;exact ⟨#[],fun w'=>by simp [Builtin.lenOf],fun w' _=>by simp [Builtin.firstCells,loadCells,loadCellsFrom],by simp,fun i hi=>by simp at hi,by simp⟩
    ·have hs':sz'=sz:=by
      have e1:=(hlen 0 (by omega)).1;simp only [List.getElem_take,List.getElem_drop] at e1;rw [<-(b5 (off+0) (by omega)).1];exact e1
     subst hs';let f:Nat->Nat->Value:=fun i j=>(cells[(off+i)*sz'+j]?).getD undef
     have hf:∀ i j,i < len->j < sz'->cells[(off+i)*sz'+j]?=some (f i j)/\∃ (h1:off+i < es.length) (h2:j < es[off+i].length),V c es[off+i][j] (f i j):=by
      intro i j hi hj;have UJ:off+i < es.length:=by omega
      obtain ⟨q1,q2⟩:=b5 (off+i) UJ;obtain ⟨u,hu,hv⟩:=q2 j (by omega);have:f i j=u:=by simp [f,hu]
      rw [this];exact ⟨hu,UJ,by omega,hv⟩
     obtain ⟨r1,r2⟩:=Cq f;obtain ⟨k1,k2⟩:=key f (fun i j hi hj=>by
      have hj':=hj;simp only [List.getElem_take,List.getElem_drop] at hj' ⊢;obtain ⟨_,g1,g2,g3⟩:=hf i j (by omega) (by rw [(b5 (off+i) (by omega)).1] at hj';exact hj');exact g3) _ r1 r2
     refine ⟨_,fun w'=>by simp only [Builtin.lenOf,Sem.run_pure,o4],fun w' hw=>rowAt _ f (fun _ _=>rfl) (fun i j hi hj=>?_) w' hw _ _,r1,k1,k2⟩;obtain ⟨g1,_⟩:=hf i j (by omega) hj;simp only [World.cell?,b1];rw [<-g1];simp only [Option.isSome_none,Bool.false_eq_true,if_false];rw [Nat.add_mul]
 ·rename_i s;injection h with h;subst h
  cases hx;by_cases hne:s=[]
  ·subst hne;exact ⟨#[],fun w'=>rfl,fun w' _=>by simp [Builtin.firstCells],by simp,fun i hi=>by simp at hi,by simp⟩
  ·have h0:0 < s.length:=List.length_pos_iff.2 hne;have hs1:sz=1:=by
    have:=(hlen 0 (by simpa using h0)).1;simpa using this.symm
   subst hs1;let f:Nat->Nat->Value:=fun i _=> .int .u8 ((s[i]?).getD 0).toNat
   have hsz:(⟨s.toArray⟩:ByteArray).size=s.length:=by simp [ByteArray.size]
   obtain ⟨k1,k2⟩:=key f (fun i j hi hj=>by
    have hi':i < s.length:=by simpa using hi
    have hj0:j=0:=by simp at hj;omega
    subst hj0;simp only [List.getElem_map,List.getElem_cons_zero,f,List.getElem?_eq_getElem hi',Option.getD_some];exact V.int _ _) ((s.map fun b=>Value.int .u8 (b.toNat:Int)).toArray) (by simp) (fun i j hi hj=>by
    have hi':i < s.length:=by simpa using hi
    have hj0:j=0:=by omega
    subst hj0;simp [f,hi'])
   refine ⟨_,fun w'=>by simp [Builtin.lenOf,hsz],fun w' _=>?_,by simp,k1,k2⟩;simp only [Builtin.firstCells,Sem.run_pure,List.length_map];congr 1;apply Array.ext'
   simp
 ·rename_i id ext e o sz' len;unfold gX at h;split at h
  case h_2=>simp at h
  rename_i SZ es hl;obtain ⟨nl,hid⟩:=bu hl;split at h
  case isFalse=>simp at h
  rename_i eG;split at h
  case h_2=>simp at h
  rename_i cs hcs;obtain ⟨he,rfl⟩:=List.getElem?_eq_some_iff.1 hcs;split at h
  case isFalse=>simp at h
  rename_i hle;injection h with h;subst h
  have iM:=gR sz' len (es[e].drop o)
  cases hx with
  | arr _ _ _ _ _ _ _ ha=>
   obtain ⟨hlt',a,⟨cap,rfl,hcap⟩,hsp,ha⟩:=ha;have:=(ha _ _ _ hid).2 eG;subst this;by_cases D6:len=0
   ·subst D6;exact ⟨#[],fun w'=>by simp [Builtin.lenOf,chunks],fun w' _=>by simp [Builtin.firstCells,loadCells,loadCellsFrom,chunks],by simp [chunks],fun i hi=>by simp [chunks] at hi,by simp⟩
   ·have hmul:∀ i,i < len->i*sz'+sz'<=len*sz':=by
     intro i hi;have:=Nat.mul_le_mul_right sz' (show i+1<=len by omega);rw [Nat.add_mul,Nat.one_mul] at this;exact this
    have hs':sz'=sz:=by
     have e1:=(hlen 0 (by rw [iM];omega)).1;rw [eP] at e1;have:=hmul 0 (by omega);simp at e1;omega
    subst hs';obtain ⟨vs,_,v3,v4⟩:=jr hr hid he;let f:Nat->Nat->Value:=fun i j=>vs (o+(i*sz'+j))
    obtain ⟨r1,r2⟩:=Cq f;obtain ⟨k1,k2⟩:=key f (fun i j hi hj=>by
     have hi':i < len:=by rw [iM] at hi;exact hi
     have hj2:j < sz':=by rw [(hlen i hi).1] at hj;exact hj
     have:=hmul i hi';have h4:=v4 (o+(i*sz'+j)) (by omega);have ee:(chunks sz' len (es[e].drop o))[i][j]=es[e][o+(i*sz'+j)]'(by omega):=by
      simp only [eP,List.getElem_take,List.getElem_drop]
     rw [ee];exact h4) _ r1 r2
    refine ⟨_,fun w'=>by simp only [Builtin.lenOf,Sem.run_pure,iM],fun w' hw=>rowAt _ f (fun _ _=>rfl) (fun i j hi hj=>?_) w' hw _ _,r1,k1,k2⟩;have hi':i < len:=by rw [iM] at hi;exact hi
    have:=hmul i hi';have:=v3 (o+(i*sz'+j)) (by omega);rw [<-this];congr 2;simp only;omega
 ·simp at h
end
end Go.Am
