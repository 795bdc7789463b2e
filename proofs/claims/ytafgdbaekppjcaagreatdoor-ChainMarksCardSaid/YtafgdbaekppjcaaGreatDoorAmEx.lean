/- A region that draws its order, in which what changes memory has one order, and what is read has been looked up on both sides of all that it hangs on nothing with: it comes to one state, whatever is drawn. Condition: drawOkX. -/
import Derived.Test.YtafgdbaekppjcaaGreatDoorAmD
set_option linter.unusedSectionVars false
set_option linter.unusedVariables false
set_option linter.unusedSimpArgs false
namespace Go.Am
open Region
mutual
theorem AV.bq:∀ {a b:AV},AV.same a b=true->a=b
 | .bool a,b,h=>by cases b<;>simp_all [AV.same]
 | .int k a,b,h=>by cases b<;>simp_all [AV.same]
 | .str a,b,h=>by cases b<;>simp_all [AV.same]
 | .gA,b,h=>by cases b<;>simp_all [AV.same]
 | .bx,b,h=>by cases b<;>simp_all [AV.same]
 | .jX,b,h=>by cases b<;>simp_all [AV.same]
 | .lZ,b,h=>by cases b<;>simp_all [AV.same]
 | .oo,b,h=>by cases b<;>simp_all [AV.same]
 | .mp a,b,h=>by cases b<;>simp_all [AV.same]
 | .ro a,b,h=>by
  cases b<;>simp only [AV.same,Bool.false_eq_true] at h;rw [AV.yp h]
 | .own a c d e,b,h=>by cases b<;>simp_all [AV.same]
 | .bV a,b,h=>by
  cases b<;>simp only [AV.same,Bool.false_eq_true] at h;rw [AV.gq h]
 | .ax a c d e,b,h=>by cases b<;>simp_all [AV.same]
 | .agg a,b,h=>by
  cases b<;>simp only [AV.same,Bool.false_eq_true] at h;rw [AV.gq h]
 | .bk a,b,h=>by
  cases b<;>simp only [AV.same,Bool.false_eq_true] at h;rw [AV.gq h]
 | .fn f a,b,h=>by
  cases b<;>simp only [AV.same,Bool.false_eq_true,Bool.and_eq_true] at h;rw [Nat.eq_of_beq_eq_true h.1,AV.gq h.2]
 | .bL f a,b,h=>by
  cases b<;>simp only [AV.same,Bool.false_eq_true,Bool.and_eq_true] at h;rw [Nat.eq_of_beq_eq_true h.1,AV.gq h.2]
 | .any,b,h=>by cases b<;>simp_all [AV.same]
 | .eI _,b,h=>by cases b<;>simp_all [AV.same]
 | .oZ _,b,h=>by cases b<;>simp_all [AV.same]
 | .arr ..,b,h=>by cases b<;>simp_all [AV.same]
theorem AV.gq:∀ {a b:List AV},AV.gW a b=true->a=b
 | [],b,h=>by cases b<;>simp_all [AV.gW]
 | x::xs,b,h=>by
  cases b<;>simp only [AV.gW,Bool.false_eq_true,Bool.and_eq_true] at h;rw [AV.bq h.1,AV.gq h.2]
theorem AV.yp:∀ {a b:List (List AV)},AV.oB a b=true->a=b
 | [],b,h=>by cases b<;>simp_all [AV.oB]
 | x::xs,b,h=>by
  cases b<;>simp only [AV.oB,Bool.false_eq_true,Bool.and_eq_true] at h;rw [AV.gq h.1,AV.yp h.2]
end
mutual
theorem AV.xT:∀ a:AV,AV.same a a=true
 | .bool a=>by simp [AV.same]
 | .int k a=>by simp [AV.same]
 | .str a=>by simp [AV.same]
 | .gA | .bx | .jX | .lZ | .oo | .any=>rfl
 | .mp a=>by simp [AV.same]
 | .eI a=>by simp [AV.same]
 | .oZ a=>by simp [AV.same]
 | .arr ..=>by simp [AV.same]
 | .ro a=>by rw [AV.same];exact AV.sI a
 | .own ..=>by simp [AV.same]
 | .bV a=>by rw [AV.same];exact AV.fH a
 | .ax ..=>by simp [AV.same]
 | .agg a=>by rw [AV.same];exact AV.fH a
 | .bk a=>by rw [AV.same];exact AV.fH a
 | .fn f a=>by rw [AV.same];simp [AV.fH a]
 | .bL f a=>by rw [AV.same];simp [AV.fH a]
theorem AV.fH:∀ a:List AV,AV.gW a a=true
 | []=>rfl
 | x::xs=>by rw [AV.gW];simp [AV.xT x,AV.fH xs]
theorem AV.sI:∀ a:List (List AV),AV.oB a a=true
 | []=>rfl
 | x::xs=>by rw [AV.oB];simp [AV.fH x,AV.sI xs]
end
section
variable (G:Nat->List AV) (hp:Nat->Bool) (cI:CI) (cH:CH)
theorem nG {g:List Obj->Option AV} {v:AV} {A:List Obj} (h:iR g v A=true):g A=some v:=by
 unfold iR at h;split at h
 ·rename_i u hu;rw [hu,AV.bq h]
 ·simp at h
theorem Oj {t t':List AV} {r:RX} (h:∀ s,Da r=some s->t.getD s .any=t'.getD s .any):r.ev G t=r.ev G t':=by
 cases r<;>first | rfl | (simp only [RX.ev];exact h _ rfl)
theorem GI {o:bD} {t t':List AV} {H:List Obj} (h:∀ s∈cB o,t.getD s .any=t'.getD s .any):ic G hp cI cH o t H=ic G hp cI cH o t' H:=by
 unfold ic;have hw:want t o.guard=want t' o.guard:=by
  cases hg:o.guard with
  | none=>rfl
  | some g=>
   obtain ⟨s,b⟩:=g;simp only [want];rw [h s (by simp [cB,hg])]
 rw [hw,gu G cI hp cH H.length fun r hm=>Oj G fun s hs=>h s (by simp only [cB,List.mem_append,List.mem_filterMap];exact .inr ⟨r,hm,hs⟩)]
theorem Jj {o:bD} {t:List AV} {A:List Obj} {v:AV} (hk:o.op.kind= .read) (h:lU G o t A=some v):ic G hp cI cH o t A=some (v,A):=by
 unfold lU at h;unfold ic;split at h
 ·simp only [evalOp,hk,h]
 ·simp at h;rw [h]
 ·simp at h
structure Steps (bf:List Nat) (ops:List bD) (i0:Nat) (T:Nat->List AV) (Hs:Nat->List Obj) (v:Nat->AV):Prop where
 act:∀ i (hi:i < ops.length),ic G hp cI cH ops[i] (T i) (Hs i)=some (v i,Hs (i+1))/\T (i+1)=cO (T i) ops[i].dst (v i)
 yG:∀ i j (hi:i < ops.length) (hj:j < ops.length),cJ ops[i]=true->ops[j].op.kind= .read->bit bf (i0+i) (i0+j)=false->bit bf (i0+j) (i0+i)=false->
  lU G ops[j] (T j) (Hs i)=some (v j)/\lU G ops[j] (T j) (Hs (i+1))=some (v j)
theorem yq (bf:List Nat):∀ (ops:List bD) (i0:Nat) (rs:List (Nat×(List Obj->Option AV)×AV)) (hs:List (Nat×List Obj×List Obj)) (t:List AV) (H:List Obj) (t':List AV) (H':List Obj),
 tU G hp cI cH bf ops i0 rs hs t H=some (t',H')->∃ T Hs v,Steps G hp cI cH bf ops i0 T Hs v/\T 0=t/\Hs 0=H/\T ops.length=t'/\Hs ops.length=H'/\
  (∀ r∈rs,∀ i (hi:i < ops.length),cJ ops[i]=true->bit bf (i0+i) r.1=false->r.2.1 (Hs i)=some r.2.2/\r.2.1 (Hs (i+1))=some r.2.2)/\
  (∀ h∈hs,∀ j (hj:j < ops.length),ops[j].op.kind= .read->bit bf (i0+j) h.1=false->lU G ops[j] (T j) h.2.1=some (v j)/\lU G ops[j] (T j) h.2.2=some (v j))
 | [],i0,rs,hs,t,H,t',H',h=>by
  simp only [tU,Option.some.injEq,Prod.mk.injEq] at h;obtain ⟨rfl,rfl⟩:=h;exact ⟨fun _=>t,fun _=>H,fun _=> .any,⟨fun i hi=>by simp at hi,fun i j hi=>by simp at hi⟩,rfl,rfl,rfl,rfl,fun r _ i hi=>by simp at hi,fun r _ i hi=>by simp at hi⟩
 | o::os,i0,rs,hs,t,H,t',H',h=>by
  rw [tU] at h;split at h
  ·simp at h
  rename_i v0 H1 ha;have go:∀ rs' hs',tU G hp cI cH bf os (i0+1) rs' hs' (cO t o.dst v0) H1=some (t',H')->(∀ r∈rs,r∈rs')->(∀ h∈hs,h∈hs')->
   (o.op.kind= .read->(i0,lU G o t,v0)∈rs'/\∀ h∈hs,bit bf i0 h.1=false->lU G o t h.2.1=some v0/\lU G o t h.2.2=some v0)->
   (cJ o=true->(i0,H,H1)∈hs'/\∀ r∈rs,bit bf i0 r.1=false->r.2.1 H=some r.2.2/\r.2.1 H1=some r.2.2)->
   ∃ T Hs v,Steps G hp cI cH bf (o::os) i0 T Hs v/\T 0=t/\Hs 0=H/\T (o::os).length=t'/\Hs (o::os).length=H'/\
    (∀ r∈rs,∀ i (hi:i < (o::os).length),cJ (o::os)[i]=true->bit bf (i0+i) r.1=false->r.2.1 (Hs i)=some r.2.2/\r.2.1 (Hs (i+1))=some r.2.2)/\
    (∀ h∈hs,∀ j (hj:j < (o::os).length),(o::os)[j].op.kind= .read->bit bf (i0+j) h.1=false->lU G (o::os)[j] (T j) h.2.1=some (v j)/\lU G (o::os)[j] (T j) h.2.2=some (v j)):=by
   intro rs' hs' hrun Lq hhs hrd hhp;obtain ⟨T,Hs,v,hst,e1,e2,e3,e4,e5,e6⟩:=yq bf os (i0+1) rs' hs' _ _ _ _ hrun;have hsh:∀ i,i0+1+i=i0+(i+1):=fun i=>by omega
   refine ⟨fun i=>match i with | 0=>t | i+1=>T i,fun i=>match i with | 0=>H | i+1=>Hs i,fun i=>match i with | 0=>v0 | i+1=>v i,⟨?_,?_⟩,rfl,rfl,e3,e4,?_,?_⟩
   ·intro i hi
    cases i with
    | zero=>dsimp only;rw [e1,e2];exact ⟨ha,rfl⟩
    | succ i=>exact hst.act i (by simpa using hi)
   ·intro i j hi hj GY hk2 Ag CD
    cases i with
    | zero=>
     cases j with
     | zero=>simp only [List.getElem_cons_zero] at GY hk2;simp [cJ,hk2] at GY
     | succ j=>
      have:=e6 _ (hhp GY).1 j (by simpa using hj) hk2 (by rw [hsh];exact CD);dsimp only at this ⊢;rw [e2];exact this
    | succ i=>
     cases j with
     | zero=>
      have:=e5 _ (hrd hk2).1 i (by simpa using hi) GY (by rw [hsh];exact Ag);exact this
     | succ j=>exact hst.yG i j (by simpa using hi) (by simpa using hj) GY hk2 (by rw [hsh,hsh];exact Ag) (by rw [hsh,hsh];exact CD)
   ·intro r hr i hi hk hb
    cases i with
    | zero=>dsimp only;rw [e2];exact (hhp hk).2 r hr hb
    | succ i=>exact e5 r (Lq r hr) i (by simpa using hi) hk (by rw [hsh];exact hb)
   ·intro r hr j hj hk hb
    cases j with
    | zero=>exact (hrd hk).2 r hr hb
    | succ j=>exact e6 r (hhs r hr) j (by simpa using hj) hk (by rw [hsh];exact hb)
  have two:∀ {b x y:Bool},(b||(x&&y))=true->b=false->x=true/\y=true:=by intro b x y;cases b<;>simp
  split at h
  ·rename_i hk;exact go rs hs h (fun _ h=>h) (fun _ h=>h) (fun e=>by rw [hk] at e;simp at e) (fun e=>by simp [cJ,hk] at e)
  ·rename_i hk;split at h
   case isFalse=>simp at h
   rename_i hc;refine go _ hs h (fun r hr=>List.mem_cons_of_mem _ hr) (fun _ h=>h) (fun _=>⟨by simp,fun r hr hb=>?_⟩) (fun e=>by simp [cJ,hk] at e);have:=two (List.all_eq_true.1 hc r hr) hb;exact ⟨nG this.1,nG this.2⟩
  ·rename_i GY hk2;split at h
   case isFalse=>simp at h
   rename_i hc;refine go rs _ h (fun _ h=>h) (fun r hr=>List.mem_cons_of_mem _ hr) (fun e=>(hk2 e).elim) (fun _=>⟨by simp,fun r hr hb=>?_⟩);have:=two (List.all_eq_true.1 hc r hr) hb;exact ⟨nG this.1,nG this.2⟩
def mA (ops:List bD) (S:Nat->Bool) (s:Nat) (x:AV) (v:Nat->AV):Nat->AV
 | 0=>x
 | n+1=>if S n=true/\(ops.getD n default).dst=some s then v n else mA ops S s x v n
theorem jW {ops:List bD} {S S':Nat->Bool} {s:Nat} {x:AV} {v:Nat->AV}:∀ {n:Nat},(∀ k < n,(ops.getD k default).dst=some s->S k=S' k)->mA ops S s x v n=mA ops S' s x v n
 | 0,_=>rfl
 | n+1,h=>by
  simp only [mA];rw [jW fun k hk=>h k (by omega)];by_cases hd:(ops.getD n default).dst=some s
  ·rw [h n (by omega) hd]
  ·simp only [hd,and_false,if_false]
theorem lu {ops:List bD} {S:Nat->Bool} {s:Nat} {x:AV} {v:Nat->AV} {j:Nat}:∀ {n:Nat},j<=n->(∀ k,j<=k->k < n->(ops.getD k default).dst=some s->S k=false)->mA ops S s x v n=mA ops S s x v j
 | 0,hj,_=>by rw [Nat.le_zero.1 hj]
 | n+1,hj,h=>by
  rcases Nat.lt_or_ge n j with h1 | h1
  ·have:j=n+1:=by omega
   rw [this]
  ·simp only [mA];rw [if_neg,lu h1 fun k h2 h3=>h k h2 (by omega)];rintro ⟨h2,h3⟩;rw [h n h1 (by omega) h3] at h2;simp at h2
variable {G} {hp} {cI} {cH}
section
variable {bf:List Nat} {ops:List bD} {T:Nat->List AV} {Hs:Nat->List Obj} {v:Nat->AV} (st:Steps G hp cI cH bf ops 0 T Hs v)
include st
theorem Steps.len:∀ i,i<=ops.length->(T i).length=(T 0).length
 | 0,_=>rfl
 | i+1,h=>by
  rw [(st.act i h).2,<-Steps.len i (by omega)];unfold cO;split<;>simp
theorem BY {t:List AV} {d:Option Nat} {u:AV} {s:Nat} (hs:s < t.length):(cO t d u).getD s .any=if d=some s then u else t.getD s .any:=by
 cases d with
 | none=>simp [cO]
 | some d=>
  simp only [cO,Option.some.injEq];by_cases h:d=s
  ·subst h;simp [List.getD,hs]
  ·simp [List.getD,List.getElem?_set_ne h,h]
theorem Steps.slot {s:Nat} (hs:s < (T 0).length):∀ i,i<=ops.length->(T i).getD s .any=mA ops (fun _=>true) s ((T 0).getD s .any) v i
 | 0,_=>rfl
 | i+1,h=>by
  have hl:s < (T i).length:=by rw [st.len i (by omega)];exact hs
  rw [(st.act i h).2,BY st hl,Steps.slot hs i (by omega)];have:ops.getD i default=ops[i]:=by simp [List.getD,Nat.lt_of_succ_le h]
  simp only [mA,true_and,this]
theorem Steps.still {i:Nat} (hi:i < ops.length) (hk:cJ ops[i]=false):Hs (i+1)=Hs i:=by
 have h:=(st.act i hi).1;have hc:ops[i].op.kind= .pure\/ops[i].op.kind= .read:=by
  unfold cJ at hk;split at hk
  ·rename_i e;exact .inl e
  ·rename_i e;exact .inr e
  ·simp at hk
 rcases hc with hc | hc
 ·exact (nD G hp cI cH hc h).1
 ·exact nE G hp cI cH hc h
theorem Steps.jR {a:Nat}:∀ b,a<=b->b<=ops.length->(∀ k (hk:k < ops.length),a<=k->k < b->cJ ops[k]=false)->Hs b=Hs a
 | 0,h,_,_=>by rw [Nat.le_zero.1 h]
 | b+1,h,hb,hk=>by
  rcases Nat.lt_or_ge b a with h1 | h1
  ·have:a=b+1:=by omega
   rw [this]
  ·rw [st.still hb (hk b hb h1 (by omega))];exact Steps.jR b h1 (by omega) fun k h2 h3 h4=>hk k h2 h3 (by omega)
theorem wv {a:Nat}:∀ b,a<=b->b<=ops.length->(∀ k (hk:k < ops.length),a<=k->k < b->cJ ops[k]=false)\/∃ k,∃ hk:k < ops.length,a<=k/\k < b/\cJ ops[k]=true/\Hs a=Hs k
 | 0,h,_=> .inl fun k _ h1 h2=>by omega
 | b+1,h,hb=>by
  rcases Nat.lt_or_ge b a with h1 | h1
  ·exact .inl fun k _ h2 h3=>by omega
  ·rcases wv b h1 (by omega) with h2 | ⟨k,h2,h3,h4,h5,h6⟩
   ·cases hk:cJ ops[b] with
    | true=>exact .inr ⟨b,hb,h1,by omega,hk,(st.jR b h1 (by omega) h2).symm⟩
    | false=>
     refine .inl fun k h3 h4 h5=>?_
     rcases Nat.lt_or_ge k b with h6 | h6
     ·exact h2 k h3 h4 h6
     ·have:k=b:=by omega
      subst this;exact hk
   ·exact .inr ⟨k,h2,h3,by omega,h5,h6⟩
theorem yu {b:Nat} (hb:b<=ops.length):∀ d a,a+d=b->(∀ k (hk:k < ops.length),a<=k->k < b->cJ ops[k]=false)\/∃ k,∃ hk:k < ops.length,a<=k/\k < b/\cJ ops[k]=true/\Hs b=Hs (k+1)
 | 0,a,h=> .inl fun k _ h1 h2=>by omega
 | d+1,a,h=>by
  rcases yu hb d (a+1) (by omega) with h2 | ⟨k,h2,h3,h4,h5,h6⟩
  ·have ha:a < ops.length:=by omega
   cases hk:cJ ops[a] with
   | true=>exact .inr ⟨a,ha,by omega,by omega,hk,st.jR b (by omega) hb h2⟩
   | false=>
    refine .inl fun k h3 h4 h5=>?_
    rcases Nat.lt_or_ge a k with h6 | h6
    ·exact h2 k h3 h6 h5
    ·have:k=a:=by omega
     subst this;exact hk
  ·exact .inr ⟨k,h2,by omega,h4,h5,h6⟩
theorem Jk (PN:uZ bf ops=true) {i j:Nat} (hi:i < ops.length) (hj:j < ops.length) (hne:i≠j) (h1:bit bf i j=false) (h2:bit bf j i=false):
 cT ops[i] ops[j]=true/\¬(cJ ops[i]=true/\cJ ops[j]=true):=by
 have key:∀ a b (ha:a < ops.length) (hb:b < ops.length),a < b->bit bf b a=false->cT ops[a] ops[b]=true/\¬(cJ ops[a]=true/\cJ ops[b]=true):=by
  intro a b ha hb hab h;have:=List.all_eq_true.1 (List.all_eq_true.1 PN b (List.mem_range.2 hb)) a (List.mem_range.2 hab);rw [h,List.getElem?_eq_getElem ha,List.getElem?_eq_getElem hb] at this;simp only [Bool.false_or,Bool.and_eq_true,Bool.not_eq_true'] at this;refine ⟨this.1,fun ⟨h3,h4⟩=>?_⟩;have:=this.2;rw [h3,h4] at this;simp at this
 rcases Nat.lt_or_gt_of_ne hne with h | h
 ·exact key i j hi hj h h2
 ·obtain ⟨k1,k2⟩:=key j i hj hi h h1;refine ⟨?_,fun ⟨a,b⟩=>k2 ⟨b,a⟩⟩;simp only [cT,Bool.and_eq_true] at k1 ⊢;refine ⟨⟨k1.1.2,k1.1.1⟩,?_⟩;have:=k1.2;revert this
  cases ops[j].dst<;>cases ops[i].dst<;>simp [ow];intro h;exact fun e=>h e.symm
theorem yw {d:Option Nat} {l:List Nat} {s:Nat} (h:jG d l=true) (hs:s∈l):d≠some s:=by
 rintro rfl;simp [jG,hs] at h
theorem Fy (PN:uZ bf ops=true) (hlt:∀ i j,i < ops.length->i<=j->bit bf i j=false):∀ (π:List Nat) (S:Nat->Bool) (t:List AV) (H:List Obj),
 t.length=(T 0).length->(∀ s < (T 0).length,t.getD s .any=mA ops S s ((T 0).getD s .any) v ops.length)->
 (∃ m,m<=ops.length/\H=Hs m/\∀ k (hk:k < ops.length),cJ ops[k]=true->(S k=true↔k < m))->
 (∀ j∈π,j < ops.length/\S j=false)->(∀ k < ops.length,S k=false->k∈π)->π.Nodup->π.Pairwise (fun a b=>bit bf a b=false)->
 (∀ k < ops.length,S k=true->∀ j∈π,bit bf k j=false)->
 bP G hp cI cH (π.map fun i=>ops.getD i default) t H=some (T ops.length,Hs ops.length)
 | [],S,t,H,hl,hts,⟨m,hm,hH,hmk⟩,_,hall,_,_,_=>by
  have hS:∀ k < ops.length,S k=true:=fun k hk=>by
   cases h:S k with
   | true=>rfl
   | false=>exact absurd (hall k hk h) (by simp)
  have ht:t=T ops.length:=by
   refine List.ext_getElem (by rw [hl,st.len _ (Nat.le_refl _)]) fun s h1 h2=>?_
   have h3:=hts s (by omega);rw [jW (S':=fun _=>true) fun k hk _=>hS k hk,<-st.slot (by omega) _ (Nat.le_refl _)] at h3;simpa [List.getD,h1,h2] using h3
  have wW:H=Hs ops.length:=by
   rw [hH];refine (st.jR _ hm (Nat.le_refl _) fun k hk h1 h2=>?_).symm
   cases h:cJ ops[k] with
   | false=>rfl
   | true=>have:=(hmk k hk h).1 (hS k hk);omega
  simp [bP,ht,wW]
 | j::π,S,t,H,hl,hts,⟨m,hm,hH,hmk⟩,hin,hall,CC,YD,hdn=>by
  obtain ⟨hj,hSj⟩:=hin j (by simp);have D7:ops.getD j default=ops[j]:=by simp [List.getD,hj]
  have hnj:j ∉ π:=(List.nodup_cons.1 CC).1;have hpre:∀ k < ops.length,bit bf j k=true->S k=true:=by
   intro k hk hb
   cases h:S k with
   | true=>rfl
   | false=>
    rcases List.mem_cons.1 (hall k hk h) with rfl | hk2
    ·rw [hlt k k hk (Nat.le_refl _)] at hb;simp at hb
    ·rw [(List.pairwise_cons.1 YD).1 k hk2] at hb;simp at hb
  have hpost:∀ k < ops.length,S k=true->bit bf k j=false:=fun k hk hs=>hdn k hk hs j (by simp)
  have Q5:∀ k (hk:k < ops.length),j < k->S k=true->cT ops[k] ops[j]=true/\¬(cJ ops[k]=true/\cJ ops[j]=true):=fun k hk h hs=>
   Jk st PN hk hj (by omega) (hpost k hk hs) (hlt j k hj (by omega))
  have UT:∀ k (hk:k < ops.length),k < j->S k=false->cT ops[k] ops[j]=true/\¬(cJ ops[k]=true/\cJ ops[j]=true):=fun k hk h hs=>by
   refine Jk st PN hk hj (by omega) (hlt k j hk (by omega)) ?_
   cases hb:bit bf j k with
   | false=>rfl
   | true=>rw [hpre k hk hb] at hs;simp at hs
  have SY:∀ s∈cB ops[j],t.getD s .any=(T j).getD s .any:=by
   intro s hs;rcases Nat.lt_or_ge s (T 0).length with h1 | h1
   ·rw [hts s h1,st.slot h1 j (by omega)];rw [lu (Nat.le_of_lt hj) fun k h2 h3 hd=>?_]
    ·refine jW fun k hk hd=>?_
     have hk':k < ops.length:=by omega
     cases h:S k with
     | true=>rfl
     | false=>
      have:=(UT k hk' hk h).1;simp only [cT,Bool.and_eq_true] at this;have hd':ops[k].dst=some s:=by simpa [List.getD,hk'] using hd
      exact (yw st this.1.1 hs hd').elim
    ·rcases Nat.lt_or_ge j k with h4 | h4
     ·cases h:S k with
      | false=>rfl
      | true=>
       have:=(Q5 k h3 h4 h).1;simp only [cT,Bool.and_eq_true] at this;have hd':ops[k].dst=some s:=by simpa [List.getD,h3] using hd
       exact (yw st this.1.1 hs hd').elim
     ·have:k=j:=by omega
      rw [this];exact hSj
   ·have h2:(T j).length<=s:=by rw [st.len j (by omega)];exact h1
    simp [List.getD,List.getElem?_eq_none h2,List.getElem?_eq_none (show t.length<=s by omega)]
  obtain ⟨hact,hT⟩:=st.act j hj;have step:∃ m',m'<=ops.length/\ic G hp cI cH ops[j] t H=some (v j,Hs m')/\∀ k (hk:k < ops.length),cJ ops[k]=true->((S k=true\/k=j)↔k < m'):=by
   rw [GI G hp cI cH SY,hH]
   cases PX:cJ ops[j] with
   | false=>
    have hm':∀ k (hk:k < ops.length),cJ ops[k]=true->((S k=true\/k=j)↔k < m):=fun k hk h=>by
     rw [<-hmk k hk h];constructor
     ·rintro (h1 | rfl)
      ·exact h1
      ·rw [PX] at h;simp at h
     ·exact .inl
    refine ⟨m,hm,?_,hm'⟩;have hc:ops[j].op.kind= .pure\/ops[j].op.kind= .read:=by
     unfold cJ at PX;split at PX
     ·rename_i e;exact .inl e
     ·rename_i e;exact .inr e
     ·simp at PX
    rcases hc with hc | hc
    ·exact (nD G hp cI cH hc hact).2 _
    ·have yG:∀ k (hk:k < ops.length),cJ ops[k]=true->bit bf k j=false->bit bf j k=false->lU G ops[j] (T j) (Hs k)=some (v j)/\lU G ops[j] (T j) (Hs (k+1))=some (v j):=
      fun k hk h h1 h2=>st.yG k j hk hj h hc (by simpa using h1) (by simpa using h2)
     have same:∀ {A:List Obj},A=Hs j->ic G hp cI cH ops[j] (T j) A=some (v j,A):=by
      rintro A rfl;rw [hact,nE G hp cI cH hc hact]
     rcases Nat.le_total m j with h1 | h1
     ·rcases wv st j h1 (by omega) with h2 | ⟨k,hk,h3,h4,h5,h6⟩
      ·exact same (st.jR j h1 (by omega) h2).symm
      ·have Xs:S k=false:=by
        cases h:S k with
        | false=>rfl
        | true=>have:=(hmk k hk h5).1 h;omega
       have hb:bit bf j k=false:=by
        cases hb:bit bf j k with
        | false=>rfl
        | true=>rw [hpre k hk hb] at Xs;simp at Xs
       rw [h6];exact Jj G hp cI cH hc (yG k hk h5 (hlt k j hk (by omega)) hb).1
     ·rcases yu st hm (m - j) j (by omega) with h2 | ⟨k,hk,h3,h4,h5,h6⟩
      ·exact same (st.jR m h1 hm h2)
      ·have Xs:S k=true:=(hmk k hk h5).2 h4;have hjk:j≠k:=by rintro rfl;rw [PX] at h5;simp at h5
       rw [h6];exact Jj G hp cI cH hc (yG k hk h5 (hpost k hk Xs) (hlt j k hj (by omega))).2
   | true=>
    have hS:∀ k (hk:k < ops.length),cJ ops[k]=true->(S k=true↔k < j):=by
     intro k hk h;constructor
     ·intro hs;rcases Nat.lt_or_ge k j with h1 | h1
      ·exact h1
      ·rcases Nat.lt_or_ge j k with h2 | h2
       ·exact ((Q5 k hk h2 hs).2 ⟨h,PX⟩).elim
       ·have:k=j:=by omega
        subst this;rw [hSj] at hs;simp at hs
     ·intro h1
      cases hs:S k with
      | true=>rfl
      | false=>exact ((UT k hk h1 hs).2 ⟨h,PX⟩).elim
    have hmj:Hs m=Hs j:=by
     rcases Nat.le_total m j with h1 | h1
     ·refine (st.jR j h1 (by omega) fun k hk h2 h3=>?_).symm
      cases h:cJ ops[k] with
      | false=>rfl
      | true=>have:=(hmk k hk h).1 ((hS k hk h).2 h3);omega
     ·refine st.jR m h1 hm fun k hk h2 h3=>?_
      cases h:cJ ops[k] with
      | false=>rfl
      | true=>have:=(hS k hk h).1 ((hmk k hk h).2 h3);omega
    refine ⟨j+1,hj,by rw [hmj];exact hact,fun k hk h=>?_⟩;rw [hS k hk h];omega
  obtain ⟨m',hm',Ww,afa⟩:=step;rw [List.map_cons,cY,D7,Ww];dsimp only;refine Fy PN hlt π (fun k=>S k||Nat.beq k j) _ _ ?_ ?_ ⟨m',hm',rfl,fun k hk h=>?_⟩ ?_ ?_ (List.nodup_cons.1 CC).2 (List.pairwise_cons.1 YD).2 ?_
  ·unfold cO;split<;>simp [hl]
  ·intro s hs;rw [BY st (by omega)];split
   ·rename_i hd;rw [lu (j:=j+1) hj fun k h2 h3 Xt=>?_]
    ·simp only [mA];rw [if_pos ⟨by simp,by rw [D7];exact hd⟩]
    ·have afb:ops[k].dst=some s:=by simpa [List.getD,h3] using Xt
     have hnk:Nat.beq k j=false:=by
      cases hb:Nat.beq k j with
      | false=>rfl
      | true=>have:=Nat.eq_of_beq_eq_true hb;omega
     simp only [hnk,Bool.or_false]
     cases h:S k with
     | false=>rfl
     | true=>
      have:=(Q5 k h3 (by omega) h).1;simp only [cT,Bool.and_eq_true] at this;have:=this.2;rw [afb,hd] at this;simp [ow] at this
   ·rename_i hd;rw [hts s hs];refine jW fun k hk Xt=>?_
    have hnk:k≠j:=by rintro rfl;rw [D7] at Xt;exact hd Xt
    have:Nat.beq k j=false:=by
     cases hb:Nat.beq k j with
     | false=>rfl
     | true=>exact (hnk (Nat.eq_of_beq_eq_true hb)).elim
    simp [this]
  ·rw [<-afa k hk h];simp only [Bool.or_eq_true];constructor
   ·rintro (h1 | h1)
    ·exact .inl h1
    ·exact .inr (Nat.eq_of_beq_eq_true h1)
   ·rintro (h1 | rfl)
    ·exact .inl h1
    ·exact .inr (Nat.beq_refl k)
  ·intro i hi;obtain ⟨h1,h2⟩:=hin i (by simp [hi]);refine ⟨h1,?_⟩;have hne:i≠j:=by rintro rfl;exact hnj hi
   have:Nat.beq i j=false:=by
    cases hb:Nat.beq i j with
    | false=>rfl
    | true=>exact (hne (Nat.eq_of_beq_eq_true hb)).elim
   simp [h2,this]
  ·intro k hk hs;simp only [Bool.or_eq_false_iff] at hs;rcases List.mem_cons.1 (hall k hk hs.1) with rfl | h
   ·have:=hs.2;rw [Nat.beq_refl] at this;simp at this
   ·exact h
  ·intro k hk hs i hi;simp only [Bool.or_eq_true] at hs;rcases hs with hs | hs
   ·exact hdn k hk hs i (by simp [hi])
   ·rw [Nat.eq_of_beq_eq_true hs];exact (List.pairwise_cons.1 YD).1 i hi
end
theorem KU {ops:Array Oper} {bz:List bD} {π:List Nat} (ho:Ord ops bz.length π) (hd:pT ops bz=true) {t t':List AV} {H H':List Obj}
 (h:tU G hp cI cH (before ops).toList bz 0 [] [] t H=some (t',H')):bP G hp cI cH (π.map fun i=>bz.getD i default) t H=some (t',H'):=by
 simp only [pT,Bool.and_eq_true] at hd;obtain ⟨⟨_,h1⟩,h2⟩:=hd;obtain ⟨T,Hs,v,st,rfl,rfl,rfl,rfl,_,_⟩:=yq G hp cI cH _ bz 0 [] [] t H t' H' h;refine Fy st h2 (fun i j hi hij=>?_) π (fun _=>false) _ _ rfl (fun s hs=>?_) ⟨0,Nat.zero_le _,rfl,fun k hk _=>by simp⟩ (fun j hj=>⟨(ho.mem j).1 hj,rfl⟩) (fun k hk _=>(ho.mem k).2 hk) ho.nodup ho.pair (fun k _ h=>by simp at h)
 ·have:=List.all_eq_true.1 h1 i (List.mem_range.2 hi);simp only [Nat.blt_eq] at this;exact Nat.testBit_lt_two_pow (Nat.lt_of_lt_of_le this (Nat.pow_le_pow_right (by omega) hij))
 ·rw [lu (j:=0) (Nat.zero_le _) fun k _ _ _=>rfl];rfl
theorem Cc {ops:Array Oper} {bz:List bD} (hd:pT ops bz=true) (mixed:Bool) (τ:Nat):Ord ops ops.size (schedule mixed ops τ):=by
 simp only [pT,Bool.and_eq_true] at hd;obtain ⟨⟨⟨⟨h1,h2⟩,h3⟩,_⟩,_⟩:=hd;exact nB h1 h2 h3 mixed τ
end
end Go.Am
