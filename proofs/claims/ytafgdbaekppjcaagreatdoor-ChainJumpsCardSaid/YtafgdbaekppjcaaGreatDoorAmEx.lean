/- A region that draws its order, in which what changes memory has one order, and what is read has been looked up on both sides of all that it hangs on nothing with: it comes to one state, whatever is drawn. Condition: drawOkX. -/
import Derived.Test.YtafgdbaekppjcaaGreatDoorAmC
set_option linter.unusedSectionVars false
set_option linter.unusedVariables false
set_option linter.unusedSimpArgs false
namespace Go.Am
open Region
mutual
theorem AV.bx:∀ {a b:AV},AV.same a b=true->a=b
 | .bool a,b,h=>by cases b<;>simp_all [AV.same]
 | .int k a,b,h=>by cases b<;>simp_all [AV.same]
 | .str a,b,h=>by cases b<;>simp_all [AV.same]
 | .gZ,b,h=>by cases b<;>simp_all [AV.same]
 | .bF,b,h=>by cases b<;>simp_all [AV.same]
 | .jw,b,h=>by cases b<;>simp_all [AV.same]
 | .nu,b,h=>by cases b<;>simp_all [AV.same]
 | .pO,b,h=>by cases b<;>simp_all [AV.same]
 | .mp a,b,h=>by cases b<;>simp_all [AV.same]
 | .ro a,b,h=>by
  cases b<;>simp only [AV.same,za9] at h;rw [AV.AL h]
 | .own a c d e,b,h=>by cases b<;>simp_all [AV.same]
 | .bR a,b,h=>by
  cases b<;>simp only [AV.same,za9] at h;rw [AV.gO h]
 | .aJ a c d e,b,h=>by cases b<;>simp_all [AV.same]
 | .agg a,b,h=>by
  cases b<;>simp only [AV.same,za9] at h;rw [AV.gO h]
 | .aY a,b,h=>by
  cases b<;>simp only [AV.same,za9] at h;rw [AV.gO h]
 | .fn f a,b,h=>by
  cases b<;>simp only [AV.same,za9,za0] at h;rw [za3 h.1,AV.gO h.2]
 | .eD f a,b,h=>by
  cases b<;>simp only [AV.same,za9,za0] at h;rw [za3 h.1,AV.gO h.2]
 | .any,b,h=>by cases b<;>simp_all [AV.same]
 | .fA _,b,h=>by cases b<;>simp_all [AV.same]
 | .qB _,b,h=>by cases b<;>simp_all [AV.same]
 | .arr ..,b,h=>by cases b<;>simp_all [AV.same]
theorem AV.gO:∀ {a b:List AV},AV.iJ a b=true->a=b
 | [],b,h=>by cases b<;>simp_all [AV.iJ]
 | x::xs,b,h=>by
  cases b<;>simp only [AV.iJ,za9,za0] at h;rw [AV.bx h.1,AV.gO h.2]
theorem AV.AL:∀ {a b:List (List AV)},AV.p0 a b=true->a=b
 | [],b,h=>by cases b<;>simp_all [AV.p0]
 | x::xs,b,h=>by
  cases b<;>simp only [AV.p0,za9,za0] at h;rw [AV.gO h.1,AV.AL h.2]
end
mutual
theorem AV.Ad:∀ a:AV,AV.same a a=true
 | .bool a=>by simp [AV.same]
 | .int k a=>by simp [AV.same]
 | .str a=>by simp [AV.same]
 | .gZ | .bF | .jw | .nu | .pO | .any=>rfl
 | .mp a=>by simp [AV.same]
 | .fA a=>by simp [AV.same]
 | .qB a=>by simp [AV.same]
 | .arr ..=>by simp [AV.same]
 | .ro a=>by rw [AV.same];exact AV.uI a
 | .own ..=>by simp [AV.same]
 | .bR a=>by rw [AV.same];exact AV.fZ a
 | .aJ ..=>by simp [AV.same]
 | .agg a=>by rw [AV.same];exact AV.fZ a
 | .aY a=>by rw [AV.same];exact AV.fZ a
 | .fn f a=>by rw [AV.same];simp [AV.fZ a]
 | .eD f a=>by rw [AV.same];simp [AV.fZ a]
theorem AV.fZ:∀ a:List AV,AV.iJ a a=true
 | []=>rfl
 | x::xs=>by rw [AV.iJ];simp [AV.Ad x,AV.fZ xs]
theorem AV.uI:∀ a:List (List AV),AV.p0 a a=true
 | []=>rfl
 | x::xs=>by rw [AV.p0];simp [AV.fZ x,AV.uI xs]
end
section
variable (G:Nat->List AV) (hp:Nat->Bool) (cI:CI) (cH:CH)
theorem oO {g:List Obj->Option AV} {v:AV} {A:List Obj} (h:jx g v A=true):g A=some v:=by
 unfold jx at h;split at h
 ·rename_i u hu;rw [hu,AV.bx h]
 ·simp at h
theorem Ti {t t':List AV} {r:RX} (h:∀ s,F6 r=some s->t.getD s .any=t'.getD s .any):r.ev G t=r.ev G t':=by
 cases r<;>first | rfl | (simp only [RX.ev];exact h _ rfl)
theorem KA {o:bH} {t t':List AV} {H:List Obj} (h:∀ s∈cE o,t.getD s .any=t'.getD s .any):iV G hp cI cH o t H=iV G hp cI cH o t' H:=by
 unfold iV;have hw:want t o.guard=want t' o.guard:=by
  cases hg:o.guard with
  | none=>rfl
  | some g=>
   obtain ⟨s,b⟩:=g;simp only [want];rw [h s (by simp [cE,hg])]
 rw [hw,gQ G cI hp cH H.length fun r hm=>Ti G fun s hs=>h s (by simp only [cE,zaZ,List.mem_filterMap];exact .inr ⟨r,hm,hs⟩)]
theorem Nw {o:bH} {t:List AV} {A:List Obj} {v:AV} (hk:o.op.kind= .read) (h:ni G o t A=some v):iV G hp cI cH o t A=some (v,A):=by
 unfold ni at h;unfold iV;split at h
 ·simp only [evalOp,hk,h]
 ·simp at h;rw [h]
 ·simp at h
structure Steps (bf:List Nat) (ops:List bH) (i0:Nat) (T:Nat->List AV) (Hs:Nat->List Obj) (v:Nat->AV):Prop where
 act:∀ i (hi:i < ops.length),iV G hp cI cH ops[i] (T i) (Hs i)=some (v i,Hs (i+1))/\T (i+1)=cR (T i) ops[i].dst (v i)
 yO:∀ i j (hi:i < ops.length) (hj:j < ops.length),cN ops[i]=true->ops[j].op.kind= .read->bit bf (i0+i) (i0+j)=false->bit bf (i0+j) (i0+i)=false->
  ni G ops[j] (T j) (Hs i)=some (v j)/\ni G ops[j] (T j) (Hs (i+1))=some (v j)
theorem AM (bf:List Nat):∀ (ops:List bH) (i0:Nat) (rs:List (Nat×(List Obj->Option AV)×AV)) (hs:List (Nat×List Obj×List Obj)) (t:List AV) (H:List Obj) (t':List AV) (H':List Obj),
 vQ G hp cI cH bf ops i0 rs hs t H=some (t',H')->∃ T Hs v,Steps G hp cI cH bf ops i0 T Hs v/\T 0=t/\Hs 0=H/\T ops.length=t'/\Hs ops.length=H'/\
  (∀ r∈rs,∀ i (hi:i < ops.length),cN ops[i]=true->bit bf (i0+i) r.1=false->r.2.1 (Hs i)=some r.2.2/\r.2.1 (Hs (i+1))=some r.2.2)/\
  (∀ h∈hs,∀ j (hj:j < ops.length),ops[j].op.kind= .read->bit bf (i0+j) h.1=false->ni G ops[j] (T j) h.2.1=some (v j)/\ni G ops[j] (T j) h.2.2=some (v j))
 | [],i0,rs,hs,t,H,t',H',h=>by
  simp only [vQ,za2,za4] at h;obtain ⟨rfl,rfl⟩:=h;exact ⟨fun _=>t,fun _=>H,fun _=> .any,⟨fun i hi=>by simp at hi,fun i j hi=>by simp at hi⟩,rfl,rfl,rfl,rfl,fun r _ i hi=>by simp at hi,fun r _ i hi=>by simp at hi⟩
 | o::os,i0,rs,hs,t,H,t',H',h=>by
  rw [vQ] at h;split at h
  ·simp at h
  rename_i v0 H1 ha;have go:∀ rs' hs',vQ G hp cI cH bf os (i0+1) rs' hs' (cR t o.dst v0) H1=some (t',H')->(∀ r∈rs,r∈rs')->(∀ h∈hs,h∈hs')->
   (o.op.kind= .read->(i0,ni G o t,v0)∈rs'/\∀ h∈hs,bit bf i0 h.1=false->ni G o t h.2.1=some v0/\ni G o t h.2.2=some v0)->
   (cN o=true->(i0,H,H1)∈hs'/\∀ r∈rs,bit bf i0 r.1=false->r.2.1 H=some r.2.2/\r.2.1 H1=some r.2.2)->
   ∃ T Hs v,Steps G hp cI cH bf (o::os) i0 T Hs v/\T 0=t/\Hs 0=H/\T (o::os).length=t'/\Hs (o::os).length=H'/\
    (∀ r∈rs,∀ i (hi:i < (o::os).length),cN (o::os)[i]=true->bit bf (i0+i) r.1=false->r.2.1 (Hs i)=some r.2.2/\r.2.1 (Hs (i+1))=some r.2.2)/\
    (∀ h∈hs,∀ j (hj:j < (o::os).length),(o::os)[j].op.kind= .read->bit bf (i0+j) h.1=false->ni G (o::os)[j] (T j) h.2.1=some (v j)/\ni G (o::os)[j] (T j) h.2.2=some (v j)):=by
   intro rs' hs' hrun P9 hhs hrd hhp;obtain ⟨T,Hs,v,hst,e1,e2,e3,e4,e5,e6⟩:=AM bf os (i0+1) rs' hs' _ _ _ _ hrun;have hsh:∀ i,i0+1+i=i0+(i+1):=fun i=>by omega
   refine ⟨fun i=>match i with | 0=>t | i+1=>T i,fun i=>match i with | 0=>H | i+1=>Hs i,fun i=>match i with | 0=>v0 | i+1=>v i,⟨?_,?_⟩,rfl,rfl,e3,e4,?_,?_⟩
   ·intro i hi
    cases i with
    | zero=>dsimp only;rw [e1,e2];exact ⟨ha,rfl⟩
    | succ i=>exact hst.act i (by simpa using hi)
   ·intro i j hi hj KX hk2 CJ Fz
    cases i with
    | zero=>
     cases j with
     | zero=>simp only [zaF] at KX hk2;simp [cN,hk2] at KX
     | succ j=>
      have:=e6 _ (hhp KX).1 j (by simpa using hj) hk2 (by rw [hsh];exact Fz);dsimp only at this ⊢;rw [e2];exact this
    | succ i=>
     cases j with
     | zero=>
      have:=e5 _ (hrd hk2).1 i (by simpa using hi) KX (by rw [hsh];exact CJ);exact this
     | succ j=>exact hst.yO i j (by simpa using hi) (by simpa using hj) KX hk2 (by rw [hsh,hsh];exact CJ) (by rw [hsh,hsh];exact Fz)
   ·intro r hr i hi hk hb
    cases i with
    | zero=>dsimp only;rw [e2];exact (hhp hk).2 r hr hb
    | succ i=>exact e5 r (P9 r hr) i (by simpa using hi) hk (by rw [hsh];exact hb)
   ·intro r hr j hj hk hb
    cases j with
    | zero=>exact (hrd hk).2 r hr hb
    | succ j=>exact e6 r (hhs r hr) j (by simpa using hj) hk (by rw [hsh];exact hb)
  have two:∀ {b x y:Bool},(b||(x&&y))=true->b=false->x=true/\y=true:=by intro b x y;cases b<;>simp
  split at h
  ·rename_i hk;exact go rs hs h (fun _ h=>h) (fun _ h=>h) (fun e=>by rw [hk] at e;simp at e) (fun e=>by simp [cN,hk] at e)
  ·rename_i hk;split at h
   case isFalse=>simp at h
   rename_i hc;refine go _ hs h (fun r hr=>zau _ hr) (fun _ h=>h) (fun _=>⟨by simp,fun r hr hb=>?_⟩) (fun e=>by simp [cN,hk] at e);have:=two (zaf.1 hc r hr) hb;exact ⟨oO this.1,oO this.2⟩
  ·rename_i KX hk2;split at h
   case isFalse=>simp at h
   rename_i hc;refine go rs _ h (fun _ h=>h) (fun r hr=>zau _ hr) (fun e=>(hk2 e).elim) (fun _=>⟨by simp,fun r hr hb=>?_⟩);have:=two (zaf.1 hc r hr) hb;exact ⟨oO this.1,oO this.2⟩
def nH (ops:List bH) (S:Nat->Bool) (s:Nat) (x:AV) (v:Nat->AV):Nat->AV
 | 0=>x
 | n+1=>if S n=true/\(ops.getD n default).dst=some s then v n else nH ops S s x v n
theorem kT {ops:List bH} {S S':Nat->Bool} {s:Nat} {x:AV} {v:Nat->AV}:∀ {n:Nat},(∀ k < n,(ops.getD k default).dst=some s->S k=S' k)->nH ops S s x v n=nH ops S' s x v n
 | 0,_=>rfl
 | n+1,h=>by
  simp only [nH];rw [kT fun k hk=>h k (by omega)];by_cases hd:(ops.getD n default).dst=some s
  ·rw [h n (by omega) hd]
  ·simp only [hd,and_false,if_false]
theorem mN {ops:List bH} {S:Nat->Bool} {s:Nat} {x:AV} {v:Nat->AV} {j:Nat}:∀ {n:Nat},j<=n->(∀ k,j<=k->k < n->(ops.getD k default).dst=some s->S k=false)->nH ops S s x v n=nH ops S s x v j
 | 0,hj,_=>by rw [Nat.le_zero.1 hj]
 | n+1,hj,h=>by
  rcases zak n j with h1 | h1
  ·have:j=n+1:=by omega
   rw [this]
  ·simp only [nH];rw [if_neg,mN h1 fun k h2 h3=>h k h2 (by omega)];rintro ⟨h2,h3⟩;rw [h n h1 (by omega) h3] at h2;simp at h2
variable {G} {hp} {cI} {cH}
section
variable {bf:List Nat} {ops:List bH} {T:Nat->List AV} {Hs:Nat->List Obj} {v:Nat->AV} (st:Steps G hp cI cH bf ops 0 T Hs v)
include st
theorem Steps.len:∀ i,i<=ops.length->(T i).length=(T 0).length
 | 0,_=>rfl
 | i+1,h=>by
  rw [(st.act i h).2,<-Steps.len i (by omega)];unfold cR;split<;>simp
theorem EH {t:List AV} {d:Option Nat} {u:AV} {s:Nat} (hs:s < t.length):(cR t d u).getD s .any=if d=some s then u else t.getD s .any:=by
 cases d with
 | none=>simp [cR]
 | some d=>
  simp only [cR,za2];by_cases h:d=s
  ·subst h;simp [List.getD,hs]
  ·simp [List.getD,za6 h,h]
theorem Steps.slot {s:Nat} (hs:s < (T 0).length):∀ i,i<=ops.length->(T i).getD s .any=nH ops (fun _=>true) s ((T 0).getD s .any) v i
 | 0,_=>rfl
 | i+1,h=>by
  have hl:s < (T i).length:=by rw [st.len i (by omega)];exact hs
  rw [(st.act i h).2,EH st hl,Steps.slot hs i (by omega)];have:ops.getD i default=ops[i]:=by simp [List.getD,Nat.lt_of_succ_le h]
  simp only [nH,true_and,this]
theorem Steps.still {i:Nat} (hi:i < ops.length) (hk:cN ops[i]=false):Hs (i+1)=Hs i:=by
 have h:=(st.act i hi).1;have hc:ops[i].op.kind= .pure\/ops[i].op.kind= .read:=by
  unfold cN at hk;split at hk
  ·rename_i e;exact .inl e
  ·rename_i e;exact .inr e
  ·simp at hk
 rcases hc with hc | hc
 ·exact (oM G hp cI cH hc h).1
 ·exact oN G hp cI cH hc h
theorem Steps.kO {a:Nat}:∀ b,a<=b->b<=ops.length->(∀ k (hk:k < ops.length),a<=k->k < b->cN ops[k]=false)->Hs b=Hs a
 | 0,h,_,_=>by rw [Nat.le_zero.1 h]
 | b+1,h,hb,hk=>by
  rcases zak b a with h1 | h1
  ·have:a=b+1:=by omega
   rw [this]
  ·rw [st.still hb (hk b hb h1 (by omega))];exact Steps.kO b h1 (by omega) fun k h2 h3 h4=>hk k h2 h3 (by omega)
theorem yI {a:Nat}:∀ b,a<=b->b<=ops.length->(∀ k (hk:k < ops.length),a<=k->k < b->cN ops[k]=false)\/∃ k,∃ hk:k < ops.length,a<=k/\k < b/\cN ops[k]=true/\Hs a=Hs k
 | 0,h,_=> .inl fun k _ h1 h2=>by omega
 | b+1,h,hb=>by
  rcases zak b a with h1 | h1
  ·exact .inl fun k _ h2 h3=>by omega
  ·rcases yI b h1 (by omega) with h2 | ⟨k,h2,h3,h4,h5,h6⟩
   ·cases hk:cN ops[b] with
    | true=>exact .inr ⟨b,hb,h1,by omega,hk,(st.kO b h1 (by omega) h2).symm⟩
    | false=>
     refine .inl fun k h3 h4 h5=>?_
     rcases zak k b with h6 | h6
     ·exact h2 k h3 h4 h6
     ·have:k=b:=by omega
      subst this;exact hk
   ·exact .inr ⟨k,h2,h3,by omega,h5,h6⟩
theorem AN {b:Nat} (hb:b<=ops.length):∀ d a,a+d=b->(∀ k (hk:k < ops.length),a<=k->k < b->cN ops[k]=false)\/∃ k,∃ hk:k < ops.length,a<=k/\k < b/\cN ops[k]=true/\Hs b=Hs (k+1)
 | 0,a,h=> .inl fun k _ h1 h2=>by omega
 | d+1,a,h=>by
  rcases AN hb d (a+1) (by omega) with h2 | ⟨k,h2,h3,h4,h5,h6⟩
  ·have ha:a < ops.length:=by omega
   cases hk:cN ops[a] with
   | true=>exact .inr ⟨a,ha,by omega,by omega,hk,st.kO b (by omega) hb h2⟩
   | false=>
    refine .inl fun k h3 h4 h5=>?_
    rcases zak a k with h6 | h6
    ·exact h2 k h3 h6 h5
    ·have:k=a:=by omega
     subst this;exact hk
  ·exact .inr ⟨k,h2,by omega,h4,h5,h6⟩
theorem Nx (UI:xw bf ops=true) {i j:Nat} (hi:i < ops.length) (hj:j < ops.length) (hne:i≠j) (h1:bit bf i j=false) (h2:bit bf j i=false):
 cU ops[i] ops[j]=true/\¬(cN ops[i]=true/\cN ops[j]=true):=by
 have key:∀ a b (ha:a < ops.length) (hb:b < ops.length),a < b->bit bf b a=false->cU ops[a] ops[b]=true/\¬(cN ops[a]=true/\cN ops[b]=true):=by
  intro a b ha hb hab h;have:=zaf.1 (zaf.1 UI b (zac.2 hb)) a (zac.2 hab);rw [h,za1 ha,za1 hb] at this;simp only [zbN,za0,zbe] at this;refine ⟨this.1,fun ⟨h3,h4⟩=>?_⟩;have:=this.2;rw [h3,h4] at this;simp at this
 rcases Nat.lt_or_gt_of_ne hne with h | h
 ·exact key i j hi hj h h2
 ·obtain ⟨k1,k2⟩:=key j i hj hi h h1;refine ⟨?_,fun ⟨a,b⟩=>k2 ⟨b,a⟩⟩;simp only [cU,za0] at k1 ⊢;refine ⟨⟨k1.1.2,k1.1.1⟩,?_⟩;have:=k1.2;revert this
  cases ops[j].dst<;>cases ops[i].dst<;>simp [pU];intro h;exact fun e=>h e.symm
theorem AP {d:Option Nat} {l:List Nat} {s:Nat} (h:kz d l=true) (hs:s∈l):d≠some s:=by
 rintro rfl;simp [kz,hs] at h
theorem Jp (UI:xw bf ops=true) (hlt:∀ i j,i < ops.length->i<=j->bit bf i j=false):∀ (π:List Nat) (S:Nat->Bool) (t:List AV) (H:List Obj),
 t.length=(T 0).length->(∀ s < (T 0).length,t.getD s .any=nH ops S s ((T 0).getD s .any) v ops.length)->
 (∃ m,m<=ops.length/\H=Hs m/\∀ k (hk:k < ops.length),cN ops[k]=true->(S k=true↔k < m))->
 (∀ j∈π,j < ops.length/\S j=false)->(∀ k < ops.length,S k=false->k∈π)->π.Nodup->π.Pairwise (fun a b=>bit bf a b=false)->
 (∀ k < ops.length,S k=true->∀ j∈π,bit bf k j=false)->
 bP G hp cI cH (π.map fun i=>ops.getD i default) t H=some (T ops.length,Hs ops.length)
 | [],S,t,H,hl,hts,⟨m,hm,hH,hmk⟩,_,hall,_,_,_=>by
  have hS:∀ k < ops.length,S k=true:=fun k hk=>by
   cases h:S k with
   | true=>rfl
   | false=>exact absurd (hall k hk h) (by simp)
  have ht:t=T ops.length:=by
   refine zb4 (by rw [hl,st.len _ (za7 _)]) fun s h1 h2=>?_
   have h3:=hts s (by omega);rw [kT (S':=fun _=>true) fun k hk _=>hS k hk,<-st.slot (by omega) _ (za7 _)] at h3;simpa [List.getD,h1,h2] using h3
  have zo:H=Hs ops.length:=by
   rw [hH];refine (st.kO _ hm (za7 _) fun k hk h1 h2=>?_).symm
   cases h:cN ops[k] with
   | false=>rfl
   | true=>have:=(hmk k hk h).1 (hS k hk);omega
  simp [bP,ht,zo]
 | j::π,S,t,H,hl,hts,⟨m,hm,hH,hmk⟩,hin,hall,Fy,hpw,hdn=>by
  obtain ⟨hj,hSj⟩:=hin j (by simp);have Hx:ops.getD j default=ops[j]:=by simp [List.getD,hj]
  have hnj:j ∉ π:=(zbF.1 Fy).1;have hpre:∀ k < ops.length,bit bf j k=true->S k=true:=by
   intro k hk hb
   cases h:S k with
   | true=>rfl
   | false=>
    rcases zad.1 (hall k hk h) with rfl | hk2
    ·rw [hlt k k hk (za7 _)] at hb;simp at hb
    ·rw [(zaJ.1 hpw).1 k hk2] at hb;simp at hb
  have hpost:∀ k < ops.length,S k=true->bit bf k j=false:=fun k hk hs=>hdn k hk hs j (by simp)
  have V2:∀ k (hk:k < ops.length),j < k->S k=true->cU ops[k] ops[j]=true/\¬(cN ops[k]=true/\cN ops[j]=true):=fun k hk h hs=>
   Nx st UI hk hj (by omega) (hpost k hk hs) (hlt j k hj (by omega))
  have aab:∀ k (hk:k < ops.length),k < j->S k=false->cU ops[k] ops[j]=true/\¬(cN ops[k]=true/\cN ops[j]=true):=fun k hk h hs=>by
   refine Nx st UI hk hj (by omega) (hlt k j hk (by omega)) ?_
   cases hb:bit bf j k with
   | false=>rfl
   | true=>rw [hpre k hk hb] at hs;simp at hs
  have XU:∀ s∈cE ops[j],t.getD s .any=(T j).getD s .any:=by
   intro s hs;rcases zak s (T 0).length with h1 | h1
   ·rw [hts s h1,st.slot h1 j (by omega)];rw [mN (Nat.le_of_lt hj) fun k h2 h3 hd=>?_]
    ·refine kT fun k hk hd=>?_
     have hk':k < ops.length:=by omega
     cases h:S k with
     | true=>rfl
     | false=>
      have:=(aab k hk' hk h).1;simp only [cU,za0] at this;have hd':ops[k].dst=some s:=by simpa [List.getD,hk'] using hd
      exact (AP st this.1.1 hs hd').elim
    ·rcases zak j k with h4 | h4
     ·cases h:S k with
      | false=>rfl
      | true=>
       have:=(V2 k h3 h4 h).1;simp only [cU,za0] at this;have hd':ops[k].dst=some s:=by simpa [List.getD,h3] using hd
       exact (AP st this.1.1 hs hd').elim
     ·have:k=j:=by omega
      rw [this];exact hSj
   ·have h2:(T j).length<=s:=by rw [st.len j (by omega)];exact h1
    simp [List.getD,zao h2,zao (show t.length<=s by omega)]
  obtain ⟨hact,hT⟩:=st.act j hj;have step:∃ m',m'<=ops.length/\iV G hp cI cH ops[j] t H=some (v j,Hs m')/\∀ k (hk:k < ops.length),cN ops[k]=true->((S k=true\/k=j)↔k < m'):=by
   rw [KA G hp cI cH XU,hH]
   cases hkj:cN ops[j] with
   | false=>
    have hm':∀ k (hk:k < ops.length),cN ops[k]=true->((S k=true\/k=j)↔k < m):=fun k hk h=>by
     rw [<-hmk k hk h];constructor
     ·rintro (h1 | rfl)
      ·exact h1
      ·rw [hkj] at h;simp at h
     ·exact .inl
    refine ⟨m,hm,?_,hm'⟩;have hc:ops[j].op.kind= .pure\/ops[j].op.kind= .read:=by
     unfold cN at hkj;split at hkj
     ·rename_i e;exact .inl e
     ·rename_i e;exact .inr e
     ·simp at hkj
    rcases hc with hc | hc
    ·exact (oM G hp cI cH hc hact).2 _
    ·have yO:∀ k (hk:k < ops.length),cN ops[k]=true->bit bf k j=false->bit bf j k=false->ni G ops[j] (T j) (Hs k)=some (v j)/\ni G ops[j] (T j) (Hs (k+1))=some (v j):=
      fun k hk h h1 h2=>st.yO k j hk hj h hc (by simpa using h1) (by simpa using h2)
     have same:∀ {A:List Obj},A=Hs j->iV G hp cI cH ops[j] (T j) A=some (v j,A):=by
      rintro A rfl;rw [hact,oN G hp cI cH hc hact]
     rcases Nat.le_total m j with h1 | h1
     ·rcases yI st j h1 (by omega) with h2 | ⟨k,hk,h3,h4,h5,h6⟩
      ·exact same (st.kO j h1 (by omega) h2).symm
      ·have hSk:S k=false:=by
        cases h:S k with
        | false=>rfl
        | true=>have:=(hmk k hk h5).1 h;omega
       have hb:bit bf j k=false:=by
        cases hb:bit bf j k with
        | false=>rfl
        | true=>rw [hpre k hk hb] at hSk;simp at hSk
       rw [h6];exact Nw G hp cI cH hc (yO k hk h5 (hlt k j hk (by omega)) hb).1
     ·rcases AN st hm (m - j) j (by omega) with h2 | ⟨k,hk,h3,h4,h5,h6⟩
      ·exact same (st.kO m h1 hm h2)
      ·have hSk:S k=true:=(hmk k hk h5).2 h4;have hjk:j≠k:=by rintro rfl;rw [hkj] at h5;simp at h5
       rw [h6];exact Nw G hp cI cH hc (yO k hk h5 (hpost k hk hSk) (hlt j k hj (by omega))).2
   | true=>
    have hS:∀ k (hk:k < ops.length),cN ops[k]=true->(S k=true↔k < j):=by
     intro k hk h;constructor
     ·intro hs;rcases zak k j with h1 | h1
      ·exact h1
      ·rcases zak j k with h2 | h2
       ·exact ((V2 k hk h2 hs).2 ⟨h,hkj⟩).elim
       ·have:k=j:=by omega
        subst this;rw [hSj] at hs;simp at hs
     ·intro h1
      cases hs:S k with
      | true=>rfl
      | false=>exact ((aab k hk h1 hs).2 ⟨h,hkj⟩).elim
    have hmj:Hs m=Hs j:=by
     rcases Nat.le_total m j with h1 | h1
     ·refine (st.kO j h1 (by omega) fun k hk h2 h3=>?_).symm
      cases h:cN ops[k] with
      | false=>rfl
      | true=>have:=(hmk k hk h).1 ((hS k hk h).2 h3);omega
     ·refine st.kO m h1 hm fun k hk h2 h3=>?_
      cases h:cN ops[k] with
      | false=>rfl
      | true=>have:=(hS k hk h).1 ((hmk k hk h).2 h3);omega
    refine ⟨j+1,hj,by rw [hmj];exact hact,fun k hk h=>?_⟩;rw [hS k hk h];omega
  obtain ⟨m',hm',abN,ae3⟩:=step;rw [za5,de,Hx,abN];dsimp only;refine Jp UI hlt π (fun k=>S k||Nat.beq k j) _ _ ?_ ?_ ⟨m',hm',rfl,fun k hk h=>?_⟩ ?_ ?_ (zbF.1 Fy).2 (zaJ.1 hpw).2 ?_
  ·unfold cR;split<;>simp [hl]
  ·intro s hs;rw [EH st (by omega)];split
   ·rename_i hd;rw [mN (j:=j+1) hj fun k h2 h3 hdk=>?_]
    ·simp only [nH];rw [if_pos ⟨by simp,by rw [Hx];exact hd⟩]
    ·have ae4:ops[k].dst=some s:=by simpa [List.getD,h3] using hdk
     have hnk:Nat.beq k j=false:=by
      cases hb:Nat.beq k j with
      | false=>rfl
      | true=>have:=za3 hb;omega
     simp only [hnk,Bool.or_false]
     cases h:S k with
     | false=>rfl
     | true=>
      have:=(V2 k h3 (by omega) h).1;simp only [cU,za0] at this;have:=this.2;rw [ae4,hd] at this;simp [pU] at this
   ·rename_i hd;rw [hts s hs];refine kT fun k hk hdk=>?_
    have hnk:k≠j:=by rintro rfl;rw [Hx] at hdk;exact hd hdk
    have:Nat.beq k j=false:=by
     cases hb:Nat.beq k j with
     | false=>rfl
     | true=>exact (hnk (za3 hb)).elim
    simp [this]
  ·rw [<-ae3 k hk h];simp only [zat];constructor
   ·rintro (h1 | h1)
    ·exact .inl h1
    ·exact .inr (za3 h1)
   ·rintro (h1 | rfl)
    ·exact .inl h1
    ·exact .inr (Nat.beq_refl k)
  ·intro i hi;obtain ⟨h1,h2⟩:=hin i (by simp [hi]);refine ⟨h1,?_⟩;have hne:i≠j:=by rintro rfl;exact hnj hi
   have:Nat.beq i j=false:=by
    cases hb:Nat.beq i j with
    | false=>rfl
    | true=>exact (hne (za3 hb)).elim
   simp [h2,this]
  ·intro k hk hs;simp only [zbW] at hs;rcases zad.1 (hall k hk hs.1) with rfl | h
   ·have:=hs.2;rw [Nat.beq_refl] at this;simp at this
   ·exact h
  ·intro k hk hs i hi;simp only [zat] at hs;rcases hs with hs | hs
   ·exact hdn k hk hs i (by simp [hi])
   ·rw [za3 hs];exact (zaJ.1 hpw).1 i hi
end
theorem PE {ops:Array Oper} {bE:List bH} {π:List Nat} (ho:Ord ops bE.length π) (hd:rA ops bE=true) {t t':List AV} {H H':List Obj}
 (h:vQ G hp cI cH (before ops).toList bE 0 [] [] t H=some (t',H')):bP G hp cI cH (π.map fun i=>bE.getD i default) t H=some (t',H'):=by
 simp only [rA,za0] at hd;obtain ⟨⟨_,h1⟩,h2⟩:=hd;obtain ⟨T,Hs,v,st,rfl,rfl,rfl,rfl,_,_⟩:=AM G hp cI cH _ bE 0 [] [] t H t' H' h;refine Jp st h2 (fun i j hi hij=>?_) π (fun _=>false) _ _ rfl (fun s hs=>?_) ⟨0,zaO _,rfl,fun k hk _=>by simp⟩ (fun j hj=>⟨(ho.mem j).1 hj,rfl⟩) (fun k hk _=>(ho.mem k).2 hk) ho.nodup ho.pair (fun k _ h=>by simp at h)
 ·have:=zaf.1 h1 i (zac.2 hi);simp only [zbV] at this;exact Nat.testBit_lt_two_pow (zb9 this (Nat.pow_le_pow_right (by omega) hij))
 ·rw [mN (j:=0) (zaO _) fun k _ _ _=>rfl];rfl
theorem E1 {ops:Array Oper} {bE:List bH} (hd:rA ops bE=true) (mixed:Bool) (τ:Nat):Ord ops ops.size (schedule mixed ops τ):=by
 simp only [rA,za0] at hd;obtain ⟨⟨⟨⟨h1,h2⟩,h3⟩,_⟩,_⟩:=hd;exact oK h1 h2 h3 mixed τ
end
end Go.Am
