/- The abstract machine with its slots in an association list, for proofs: what it computes, the machine computes. No condition. -/
import Derived.Test.YtafgdbaekppjcaaGreatDoorAmZ
set_option linter.unusedSectionVars false
set_option linter.unusedVariables false
set_option linter.unusedSimpArgs false
namespace Go.Am.As
structure T where
 sz:Nat
 l:List (Nat×AV)
namespace T
def getL:List (Nat×AV)→Nat→AV
 | [],_=> .any
 | (k,v)::r,n=>if k=n then v else getL r n
def putL:List (Nat×AV)→Nat→AV→List (Nat×AV)
 | [],n,x=>[(n,x)]
 | (k,v)::r,n,x=>if k=n then (n,x)::r else if n < k then (n,x)::(k,v)::r else (k,v)::putL r n x
def delL:List (Nat×AV)→Nat→List (Nat×AV)
 | [],_=>[]
 | (k,v)::r,n=>if k=n then delL r n else (k,v)::delL r n
def belsL (n:Nat):List (Nat×AV)→Bool
 | []=>true
 | (_,v)::r=>v.bel n&&belsL n r
def get (t:T) (n:Nat):AV:=getL t.l n
def put (t:T) (n:Nat) (x:AV):T:=if n < t.sz then ⟨t.sz,putL t.l n x⟩ else t
def kills:List Nat→T→T
 | [],t=>t
 | d::ds,t=>kills ds ⟨t.sz,delL t.l d⟩
def bels (n:Nat) (t:T):Bool:=belsL n t.l
def puts:List AV→Nat→List (Nat×AV)
 | [],_=>[]
 | x::xs,i=>(i,x)::puts xs (i+1)
theorem beq1 (n m:Nat):Nat.beq n m=decide (n=m):=by
 cases h:Nat.beq n m with
 | true=>simp [Nat.eq_of_beq_eq_true h]
 | false=>have:=Nat.ne_of_beq_eq_false h;simp [this]
theorem getL_putL:∀ (t:List (Nat×AV)) (i j:Nat) (x:AV),getL (putL t i x) j=if j=i then x else getL t j
 | [],i,j,x=>by
  simp only [putL,getL]
  by_cases h:i=j
  ·simp [h]
  ·have h':¬ j=i:=fun e=>h e.symm
   simp [h,h']
 | (k,v)::r,i,j,x=>by
  simp only [putL]
  by_cases hk:k=i
  ·subst hk
   simp only [if_true,getL]
   by_cases h:k=j
   ·simp [h]
   ·have h':¬ j=k:=fun e=>h e.symm
    simp [h,h']
  ·by_cases hlt:i < k
   ·simp only [hk,hlt,if_false,if_true,getL]
    by_cases h:i=j
    ·simp [h]
    ·have h':¬ j=i:=fun e=>h e.symm
     simp [h,h']
   ·simp only [hk,hlt,if_false,getL,getL_putL r]
    by_cases h:k=j
    ·subst h;simp [hk]
    ·simp [h]
theorem getL_delL:∀ (t:List (Nat×AV)) (i j:Nat),getL (delL t i) j=if j=i then .any else getL t j
 | [],i,j=>by simp [delL,getL]
 | (k,v)::r,i,j=>by
  simp only [delL]
  by_cases hk:k=i
  ·subst hk
   simp only [if_true,getL_delL r,getL]
   by_cases h:k=j
   ·simp [h]
   ·have h':¬ j=k:=fun e=>h e.symm
    simp [h,h']
  ·simp only [hk,if_false,getL,getL_delL r]
   by_cases h:k=j
   ·subst h;simp [hk]
   ·simp [h]
theorem getL_puts:∀ (xs:List AV) (i j:Nat),getL (puts xs i) j=if i≤j then xs.getD (j - i) .any else .any
 | [],i,j=>by simp [puts,getL]
 | x::xs,i,j=>by
  simp only [puts,getL,getL_puts xs]
  by_cases h:i=j
  ·subst h;simp
  ·simp only [h,if_false]
   by_cases h2:i≤j
   ·have e:j - i=(j - (i+1))+1:=by omega
    rw [if_pos (by omega),if_pos h2,e]
    rfl
   ·rw [if_neg (by omega),if_neg h2]
def keys (t:List (Nat×AV)):List Nat:=t.map (·.1)
abbrev Srt (l:List Nat):Prop:=l.Pairwise (· < ·)
theorem getL_mem:∀ (t:List (Nat×AV)),Srt (keys t)→∀ k v,(k,v)∈t→getL t k=v
 | [],_,k,v,h=>by simp at h
 | (i,u)::r,hn,k,v,h=>by
  simp only [keys,List.map_cons,List.pairwise_cons] at hn
  simp only [getL]
  rcases List.mem_cons.1 h with h | h
  ·injection h with h1 h2;subst h1;subst h2;simp
  ·have:i≠k:=by rintro rfl;exact Nat.lt_irrefl _ (hn.1 _ (List.mem_map.2 ⟨_,h,rfl⟩))
   simp only [this,if_false]
   exact getL_mem r hn.2 k v h
theorem belsL_iff (n:Nat) (t:List (Nat×AV)) (hn:Srt (keys t)):belsL n t=true↔∀ i,(getL t i).bel n=true:=by
 constructor
 ·intro h
  clear hn
  induction t with
  | nil=>intro i;simp [getL,AV.bel]
  | cons x r ih=>
   obtain ⟨k,v⟩:=x
   simp only [belsL,Bool.and_eq_true] at h
   intro i
   simp only [getL]
   by_cases hk:k=i
   ·simp [hk,h.1]
   ·simp [hk,ih h.2 i]
 ·intro h
  have:∀ s:List (Nat×AV),(∀ k v,(k,v)∈s→v.bel n=true)→belsL n s=true:=by
   intro s
   induction s with
   | nil=>intro _;rfl
   | cons x r ih=>
    intro hs
    obtain ⟨k,v⟩:=x
    simp only [belsL,Bool.and_eq_true]
    exact ⟨hs k v (by simp),ih fun k' v' hm=>hs k' v' (by simp [hm])⟩
  refine this t fun k v hm=>?_
  rw [←getL_mem t hn k v hm]
  exact h k
theorem keys_putL:∀ (t:List (Nat×AV)) (n:Nat) (x:AV),(∀ k∈keys (putL t n x),k=n∨k∈keys t)∧(Srt (keys t)→Srt (keys (putL t n x)))
 | [],n,x=>by simp [putL,keys,Srt]
 | (k,v)::r,n,x=>by
  obtain ⟨h1,h2⟩:=keys_putL r n x
  simp only [putL]
  by_cases hk:k=n
  ·subst hk;simp [keys]
  ·by_cases hlt:n < k
   ·simp only [hk,hlt,if_false,if_true]
    refine ⟨fun j hj=>by simpa [keys] using hj,fun hn=>?_⟩
    simp only [keys,List.map_cons,Srt,List.pairwise_cons,List.mem_cons,forall_eq_or_imp] at hn ⊢
    exact ⟨⟨hlt,fun j hj=>Nat.lt_trans hlt (hn.1 j hj)⟩,hn⟩
   ·simp only [hk,hlt,if_false]
    constructor
    ·intro j hj
     simp only [keys,List.map_cons,List.mem_cons] at hj ⊢
     rcases hj with hj | hj
     ·exact .inr (.inl hj)
     ·rcases h1 j hj with e | e
      ·exact .inl e
      ·exact .inr (.inr e)
    ·intro hn
     simp only [keys,List.map_cons,Srt,List.pairwise_cons] at hn ⊢
     refine ⟨fun j hm=>?_,h2 hn.2⟩
     rcases h1 j hm with e | e
     ·omega
     ·exact hn.1 j e
theorem keys_delL:∀ (t:List (Nat×AV)) (n:Nat),(keys (delL t n)).Sublist (keys t)
 | [],n=>by simp [delL,keys]
 | (k,v)::r,n=>by
  simp only [delL]
  by_cases h:k=n
  ·simp only [h,if_true];exact (keys_delL r n).trans (List.sublist_cons_self _ _)
  ·simp only [h,if_false];exact (keys_delL r n).cons_cons _
theorem keys_puts:∀ (xs:List AV) (i:Nat),Srt (keys (puts xs i))∧∀ k∈keys (puts xs i),i≤k
 | [],i=>by simp [puts,keys,Srt]
 | x::xs,i=>by
  obtain ⟨h1,h2⟩:=keys_puts xs (i+1)
  simp only [puts,keys,List.map_cons,Srt,List.pairwise_cons,List.mem_cons,forall_eq_or_imp]
  refine ⟨⟨fun k hm=>?_,h1⟩,Nat.le_refl _,fun k hk=>?_⟩
  ·have:=h2 k hm;omega
  ·have:=h2 k hk;omega
end T
def Rel (τ:T) (l:List AV):Prop:=(∀ n,τ.get n=l.getD n .any)∧τ.sz=l.length∧T.Srt (T.keys τ.l)
theorem Rel.put {τ:T} {l:List AV} (h:Rel τ l) (d:Nat) (v:AV):Rel (τ.put d v) (l.set d v):=by
 unfold T.put
 rw [h.2.1]
 by_cases hl:d < l.length
 ·simp only [hl,if_true]
  refine ⟨fun n=>?_,by simp,(T.keys_putL _ _ _).2 h.2.2⟩
  simp only [T.get,T.getL_putL]
  by_cases hn:n=d
  ·subst hn;simp [List.getD,hl]
  ·rw [if_neg hn]
   have:=h.1 n
   simp only [T.get] at this
   rw [this]
   simp only [List.getD]
   rw [List.getElem?_set_ne (fun e=>hn e.symm)]
 ·simp only [hl,if_false]
  have:l.set d v=l:=List.set_eq_of_length_le (by omega)
  rw [this];exact h
theorem Rel.del {τ:T} {l:List AV} (h:Rel τ l) (d:Nat):Rel ⟨τ.sz,T.delL τ.l d⟩ (l.set d .any):=by
 refine ⟨fun n=>?_,by simp [h.2.1],h.2.2.sublist (T.keys_delL _ _)⟩
 simp only [T.get,T.getL_delL]
 by_cases hn:n=d
 ·subst hn
  by_cases hl:n < l.length
  ·simp [List.getD,hl]
  ·simp [List.getD,hl]
 ·rw [if_neg hn]
  have:=h.1 n
  simp only [T.get] at this
  rw [this]
  simp only [List.getD]
  rw [List.getElem?_set_ne (fun e=>hn e.symm)]
theorem Rel.kills {l:List AV}:∀ (ds:List Nat) {τ:T} {l:List AV},Rel τ l→Rel (T.kills ds τ) (Am.kills ds l)
 | [],_,_,h=>h
 | d::ds,_,_,h=>Rel.kills (l:=l) ds (h.del d)
theorem Rel.bels {τ:T} {l:List AV} (h:Rel τ l) (n:Nat):T.bels n τ=AV.bels n l:=by
 have:(T.bels n τ=true)↔(AV.bels n l=true):=by
  rw [T.bels,T.belsL_iff n _ h.2.2,bels_iffL]
  have e:∀ i,T.getL τ.l i=l.getD i .any:=h.1
  simp only [e]
 cases h1:T.bels n τ<;>cases h2:AV.bels n l<;>simp [h1,h2] at this ⊢
def T.toL (τ:T):List AV:=(List.range τ.sz).map τ.get
def T.ofL (l:List AV):T:=⟨l.length,T.puts l 0⟩
theorem Rel.toL {τ:T} {l:List AV} (h:Rel τ l):τ.toL=l:=by
 apply List.ext_getElem
 ·simp [T.toL,h.2.1]
 ·intro i h1 h2
  simp only [T.toL,List.getElem_map,List.getElem_range,h.1]
  simp [List.getD,h2]
theorem Rel.ofL (l:List AV):Rel (T.ofL l) l:=by
 refine ⟨fun n=>?_,rfl,(T.keys_puts _ _).1⟩
 simp only [T.ofL,T.get,T.getL_puts,Nat.zero_le,if_true,Nat.sub_zero]
def evT (G:Nat→List AV) (τ:T):RX→AV
 | .t n=>τ.get n
 | .c v=>v
 | .g g=> .pro (G g)
theorem Rel.ev {τ:T} {l:List AV} (h:Rel τ l) (G:Nat→List AV):evT G τ=RX.ev G l:=by
 funext r
 cases r with
 | t n=>exact h.1 n
 | _=>rfl
def putD (t:T) (d:Option Nat) (v:AV):T:=match d with | some d=>t.put d v | none=>t
def wantT (t:T):Option (Nat×Bool)→Option Bool
 | none=>some true
 | some (s,b)=>match t.get s with
  | .bool c=>some (c==b)
  | .tup []=>some false
  | _=>none
theorem Rel.want {τ:T} {l:List AV} (h:Rel τ l) (g:Option (Nat×Bool)):wantT τ g=want l g:=by
 cases g with
 | none=>rfl
 | some g=>obtain ⟨s,b⟩:=g;simp only [wantT,Am.want,h.1];rfl
theorem Rel.putD {τ:T} {l:List AV} (h:Rel τ l) (d:Option Nat) (v:AV):Rel (putD τ d v) (setD l d v):=by
 cases d with
 | none=>exact h
 | some d=>exact h.put d v
def runOpsT (G:Nat→List AV) (hp:Nat→Bool) (cI:CI) (cH:CH):List ROp→T→List Obj→Option (T×List Obj)
 | [],t,H=>some (t,H)
 | o::os,t,H=>
  match wantT t o.guard with
  | some true=>(match evalOpe (evT G t) hp cI cH H.length o.op H with
   | some (v,H')=>frc v fun v=>runOpsT G hp cI cH os (putD t o.dst v) H'
   | none=>none)
  | some false=>runOpsT G hp cI cH os (putD t o.dst (.tup [])) H
  | none=>none
theorem runOpsT_sound (G:Nat→List AV) (hp:Nat→Bool) {cI cI':CI} {cH cH':CH} (h1:cI'.le cI) (h2:cH'.le cH):∀ (os:List ROp) {τ τ':T} {l:List AV} {H H':List Obj},Rel τ l→
 runOpsT G hp cI' cH' os τ H=some (τ',H')→∃ l',runOps G hp cI cH os l H=some (l',H')∧Rel τ' l'
 | [],τ,τ',l,H,H',hr,h=>by
  simp only [runOpsT,Option.some.injEq,Prod.mk.injEq] at h
  obtain ⟨rfl,rfl⟩:=h
  exact ⟨l,rfl,hr⟩
 | o::os,τ,τ',l,H,H',hr,h=>by
  rw [runOpsT,hr.want,hr.ev] at h
  rw [runOps]
  split at h
  ·rename_i hw
   rw [hw]
   split at h
   case h_2=>simp at h
   rename_i v H1 he
   rw [frc_eq] at h
   rw [evalOp_e,evalOpe_le h1 h2 he]
   exact runOpsT_sound G hp h1 h2 os (hr.putD o.dst v) h
  ·rename_i hw
   rw [hw]
   exact runOpsT_sound G hp h1 h2 os (hr.putD o.dst _) h
  ·simp at h
def actAT (G:Nat→List AV) (hp:Nat→Bool) (cI:CI) (cH:CH) (o:ROp) (t:T) (H:List Obj):Option (AV×List Obj):=
 match wantT t o.guard with
 | some true=>evalOpe (evT G t) hp cI cH H.length o.op H
 | some false=>some (.tup [],H)
 | none=>none
theorem actAT_sound (G:Nat→List AV) (hp:Nat→Bool) {cI cI':CI} {cH cH':CH} (h1:cI'.le cI) (h2:cH'.le cH) {o:ROp} {τ:T} {l:List AV} {H:List Obj} {r} (hr:Rel τ l)
 (h:actAT G hp cI' cH' o τ H=some r):actA G hp cI cH o l H=some r:=by
 unfold actAT at h
 unfold actA
 rw [hr.want,hr.ev] at h
 split at h
 ·rename_i hw
  rw [hw]
  dsimp only
  rw [evalOp_e]
  exact evalOpe_le h1 h2 h
 ·rename_i hw
  rw [hw]
  exact h
 ·simp at h
def rdT (G:Nat→List AV) (o:ROp) (t:T):List Obj→Option AV:=fun A=>match wantT t o.guard with
 | some true=>evalRe (evT G t) A o.op
 | some false=>some (.tup [])
 | none=>none
theorem rdT_eq (G:Nat→List AV) {o:ROp} {τ:T} {l:List AV} (hr:Rel τ l):rdT G o τ=rdOf G o l:=by
 funext A
 unfold rdT rdOf
 rw [hr.want,hr.ev]
 split<;>simp only [evalR_e, *]
def runXT (G:Nat→List AV) (hp:Nat→Bool) (cI:CI) (cH:CH) (bf:List Nat):List ROp→Nat→List (Nat×(List Obj→Option AV)×AV)→List (Nat×List Obj×List Obj)→T→List Obj→Option (T×List Obj)
 | [],_,_,_,t,H=>some (t,H)
 | o::os,i,rs,hs,t,H=>
  match actAT G hp cI cH o t H with
  | none=>none
  | some (v,H')=>frc v fun v=>match o.op.kind with
   | .pure=>runXT G hp cI cH bf os (i+1) rs hs (putD t o.dst v) H'
   | .read=>if (hs.all fun h=>bit bf i h.1||(chkR (rdT G o t) v h.2.1&&chkR (rdT G o t) v h.2.2))=true then
    runXT G hp cI cH bf os (i+1) ((i,rdT G o t,v)::rs) hs (putD t o.dst v) H' else none
   | _=>if (rs.all fun r=>bit bf i r.1||(chkR r.2.1 r.2.2 H&&chkR r.2.1 r.2.2 H'))=true then
    runXT G hp cI cH bf os (i+1) rs ((i,H,H')::hs) (putD t o.dst v) H' else none
theorem runXT_sound (G:Nat→List AV) (hp:Nat→Bool) {cI cI':CI} {cH cH':CH} (h1:cI'.le cI) (h2:cH'.le cH) (bf:List Nat):∀ (os:List ROp) {i:Nat} {rs:List (Nat×(List Obj→Option AV)×AV)} {hs:List (Nat×List Obj×List Obj)} {τ τ':T} {l:List AV} {H H':List Obj},Rel τ l→
 runXT G hp cI' cH' bf os i rs hs τ H=some (τ',H')→∃ l',runX G hp cI cH bf os i rs hs l H=some (l',H')∧Rel τ' l'
 | [],i,rs,hs,τ,τ',l,H,H',hr,h=>by
  simp only [runXT,Option.some.injEq,Prod.mk.injEq] at h
  obtain ⟨rfl,rfl⟩:=h
  exact ⟨l,rfl,hr⟩
 | o::os,i,rs,hs,τ,τ',l,H,H',hr,h=>by
  rw [runXT] at h
  rw [runX]
  split at h
  ·simp at h
  rename_i v H1 ha
  rw [frc_eq] at h
  rw [actAT_sound G hp h1 h2 hr ha]
  dsimp only
  rw [rdT_eq G hr] at h
  cases hk:o.op.kind<;>rw [hk] at h<;>dsimp only at h ⊢
  ·exact runXT_sound G hp h1 h2 bf os (hr.putD o.dst v) h
  all_goals
   split at h
   case isFalse=>simp at h
   rename_i hc
   rw [if_pos hc]
   exact runXT_sound G hp h1 h2 bf os (hr.putD o.dst v) h
def actDT (G:Nat→List AV) (cI:CI) (pl:Nat) (o:ROp) (t:T) (H:List Obj):Option (AV×List Obj×FP):=
 match wantT t o.guard with
 | some true=>if plOk H pl o.op=true then
  (match evalDe (evT G t) cI pl o.op H with
   | some (v,H')=>some (v,H',fpOfe (evT G t) pl o.op)
   | none=>none) else none
 | some false=>some (.tup [],H,{})
 | none=>none
def runDT (G:Nat→List AV) (cI:CI) (b:Nat):List (Nat×ROp)→T→List Obj→Option (T×List Obj×List FP)
 | [],t,H=>some (t,H,[])
 | (k,o)::os,t,H=>
  match actDT G cI (b+k) o t H with
  | some (v,H',f)=>frc v fun v=>(match runDT G cI b os (putD t o.dst v) H' with
   | some (t',H'',fs)=>some (t',H'',f::fs)
   | none=>none)
  | none=>none
theorem runDT_sound (G:Nat→List AV) {cI cI':CI} (h1:cI'.le cI) {b:Nat}:∀ (os:List (Nat×ROp)) {τ τ':T} {l:List AV} {H H':List Obj} {fs:List FP},Rel τ l→
 runDT G cI' b os τ H=some (τ',H',fs)→∃ l',runD G cI b os l H=some (l',H',fs)∧Rel τ' l'
 | [],τ,τ',l,H,H',fs,hr,h=>by
  simp only [runDT,Option.some.injEq,Prod.mk.injEq] at h
  obtain ⟨rfl,rfl,rfl⟩:=h
  exact ⟨l,rfl,hr⟩
 | (k,o)::os,τ,τ',l,H,H',fs,hr,h=>by
  rw [runDT] at h
  rw [runD]
  split at h
  case h_2=>simp at h
  rename_i v H1 f ha
  rw [frc_eq] at h
  split at h
  case h_2=>simp at h
  rename_i t1 H2 fs1 hrun
  simp only [Option.some.injEq,Prod.mk.injEq] at h
  obtain ⟨rfl,rfl,rfl⟩:=h
  have ha':actD G cI (b+k) o l H=some (v,H1,f):=by
   unfold actDT at ha
   rw [hr.want,hr.ev] at ha
   unfold actD
   split at ha
   ·rename_i hw
    rw [hw]
    split at ha
    case isFalse=>simp at ha
    rename_i hp
    split at ha
    case h_2=>simp at ha
    rename_i u H3 he
    dsimp only
    rw [if_pos hp,evalD_e,evalDe_le (b:=cI) h1 he,fpOf_e]
    exact ha
   ·rename_i hw;rw [hw];exact ha
   ·simp at ha
  obtain ⟨l',e1,e2⟩:=runDT_sound G h1 os (hr.putD o.dst v) hrun
  exact ⟨l',by rw [ha'];dsimp only;rw [e1],e2⟩
structure ST where
 tmps:T
 H:List Obj
def frzT (t:Nat) (s:ST):Option ST:=
 match s.tmps.get t with
 | .own id ext off len=>
  (match getLive s.H id with
   | some (_,es)=>if ext=es.length∧AV.belss 0 ((es.drop off).take len)=true∧(nlAt s.H id).free=true then
    some ⟨s.tmps.put t (roOf (nlAt s.H id) es ((es.drop off).take len)),s.H.set id .dead⟩ else none
   | none=>none)
 | _=>some s
def frzpT (t:Nat) (s:ST):Option ST:=
 match s.tmps.get t with
 | .pown id 1 0 0=>(match s.H[id]? with
  | some (.live .norm _ [cs])=>if AV.bels 0 cs=true then some ⟨s.tmps.put t (.pro cs),s.H.set id .dead⟩ else none
  | _=>none)
 | _=>none
def wksT:List Nat→ST→ST
 | [],s=>s
 | t::ts,s=>wksT ts ⟨s.tmps.put t (s.tmps.get t).wk,wkH s.H (s.tmps.get t)⟩
def ghost1T (base:Nat) (s:ST):GA→Option ST
 | .sh t=>(match s.tmps.get t with
  | .own id _ _ _=>(match getLive s.H id with | some (_,_::_)=>some ⟨s.tmps,mark Fl.sh s.H id⟩ | _=>some s)
  | _=>some s)
 | .res t=>(match s.tmps.get t with
  | .own id _ _ _=>if noKid (s.H.drop (id+1))=true then some ⟨s.tmps,mark Fl.res s.H id⟩ else some s
  | _=>some s)
 | .wk l=>some (wksT l s)
 | .kill l=>some ⟨T.kills l s.tmps,s.H⟩
 | .trunc n=>if Nat.blt (base+n) s.H.length&&(T.bels (base+n) s.tmps&&objsBel (base+n) (s.H.take (base+n))) then some ⟨s.tmps,s.H.take (base+n)⟩ else some s
 | .frz t=>(match frzT t s with | some s'=>some s' | none=>some s)
 | .frzp t=>(match frzpT t s with | some s'=>some s' | none=>some s)
 | .prom t sz=>(match s.tmps.get t with
  | .nils=>some ⟨s.tmps.put t (.own s.H.length 0 0 0),s.H++[.live .nil sz []]⟩
  | _=>some s)
 | .promf t off sz=>(match s.tmps.get t with
  | .pown id ext e o=>(match loadAt s.H 1 false (.pown id ext e (o+off)) with
   | some .nils=>(match storeAt (s.H++[.live .nil sz []]) 1 (.pown id ext e (o+off)) (.own s.H.length 0 0 0) with
    | some H'=>some ⟨s.tmps,H'⟩
    | none=>none)
   | _=>some s)
  | _=>some s)
 | .frzb t off=>(match s.tmps.get t with
  | .pown id ext e o=>(match loadAt s.H 1 false (.pown id ext e (o+off)) with
   | some (.own j ext' off' len')=>if j=id then none else (match frz1 0 ⟨[.own j ext' off' len'],s.H⟩ with
    | some ⟨[r],H1⟩=>(match storeAt H1 1 (.pown id ext e (o+off)) r with
     | some H'=>some ⟨s.tmps,H'⟩
     | none=>none)
    | _=>some s)
   | _=>some s)
  | _=>some s)
 | .cut t=>(match s.tmps.get t with
  | .own id ext 0 len=>(match s.H[id]? with
   | some (.live .norm sz es)=>if (Nat.ble base id&&Nat.beq (id+1) s.H.length)&&(Nat.beq ext es.length&&Nat.ble len ext)&&(T.bels id (s.tmps.put t .any)&&objsBel id (s.H.take id))&&AV.belss id es then
    some ⟨s.tmps.put t (.own id len 0 len),s.H.set id (.live .norm sz (es.take len))⟩ else none
   | _=>none)
  | _=>none)
def ghostsT (base:Nat):List GA→ST→Option ST
 | [],s=>some s
 | g::gs,s=>match ghost1T base s g with | some s'=>ghostsT base gs s' | none=>none
def SRel (σ:ST) (s:St):Prop:=Rel σ.tmps s.tmps∧σ.H=s.H
theorem wksT_rel:∀ (ts:List Nat) {σ:ST} {s:St},SRel σ s→SRel (wksT ts σ) (wks ts s)
 | [],_,_,h=>h
 | t::ts,σ,s,h=>by
  simp only [wksT,wks]
  refine wksT_rel ts ⟨?_,?_⟩
  ·simp only [h.1.1];exact h.1.put _ _
  ·simp only [h.1.1,h.2]
theorem ghost1T_sound {base:Nat} {σ σ':ST} {s:St} (hr:SRel σ s) {g:GA} (h:ghost1T base σ g=some σ'):∃ s',ghost1 base s g=some s'∧SRel σ' s':=by
 by_cases hwk:∃ l,g= .wk l
 ·obtain ⟨l,rfl⟩:=hwk
  simp only [ghost1T,Option.some.injEq] at h
  subst h
  exact ⟨_,rfl,wksT_rel l hr⟩
 obtain ⟨t,H⟩:=σ
 obtain ⟨l,H2⟩:=s
 obtain ⟨hr,hH⟩:=hr
 simp only at hr hH
 subst hH
 cases g with
 | sh i=>
  simp only [ghost1T,hr.1] at h
  simp only [ghost1]
  split at h
  ·rename_i hs
   simp only [hs]
   split at h
   ·rename_i hl;simp only [hl];injection h with h;subst h;exact ⟨_,rfl,hr,rfl⟩
   ·rename_i hne
    injection h with h;subst h
    refine ⟨⟨l,H⟩,?_,hr,rfl⟩
    split
    ·rename_i a b c hl;exact (hne a b c hl).elim
    ·rfl
  ·rename_i hne
   injection h with h;subst h
   refine ⟨⟨l,H⟩,?_,hr,rfl⟩
   split
   ·rename_i id ext off len hs;exact (hne id ext off len hs).elim
   ·rfl
 | res i=>
  simp only [ghost1T,hr.1] at h
  simp only [ghost1]
  split at h
  ·rename_i hs
   simp only [hs]
   split at h
   ·rename_i hl;rw [if_pos hl];injection h with h;subst h;exact ⟨_,rfl,hr,rfl⟩
   ·rename_i hl;rw [if_neg hl];injection h with h;subst h;exact ⟨_,rfl,hr,rfl⟩
  ·rename_i hne
   injection h with h;subst h
   refine ⟨⟨l,H⟩,?_,hr,rfl⟩
   split
   ·rename_i id ext off len hs;exact (hne id ext off len hs).elim
   ·rfl
 | wk l=>exact (hwk ⟨l,rfl⟩).elim
 | kill ds=>
  simp only [ghost1T,Option.some.injEq] at h
  subst h
  exact ⟨_,rfl,Rel.kills (l:=l) ds hr,rfl⟩
 | trunc n=>
  simp only [ghost1T,hr.bels] at h
  simp only [ghost1]
  split at h
  ·rename_i hc;rw [if_pos hc];injection h with h;subst h;exact ⟨_,rfl,hr,rfl⟩
  ·rename_i hc;rw [if_neg hc];injection h with h;subst h;exact ⟨_,rfl,hr,rfl⟩
 | frz i=>
  have key:∀ σ1,frzT i ⟨t,H⟩=some σ1→∃ s',frz1 i ⟨l,H⟩=some s'∧SRel σ1 s':=by
   intro σ1 h
   simp only [frzT,hr.1] at h
   simp only [frz1]
   split at h
   ·rename_i hs
    simp only [hs]
    split at h
    case h_2=>simp at h
    rename_i hl
    rw [hl];dsimp only
    split at h
    case isFalse=>simp at h
    rename_i hc
    rw [if_pos hc]
    injection h with h;subst h
    exact ⟨_,rfl,hr.put _ _,rfl⟩
   ·rename_i hne
    injection h with h;subst h
    refine ⟨⟨l,H⟩,?_,hr,rfl⟩
    split
    ·rename_i id ext off len hs;exact (hne id ext off len hs).elim
    ·rfl
  have keyN:frzT i ⟨t,H⟩=none→frz1 i ⟨l,H⟩=none:=by
   intro h
   simp only [frzT,hr.1] at h
   simp only [frz1]
   split at h
   ·rename_i hs
    simp only [hs]
    split at h
    ·rename_i hl
     rw [hl];dsimp only
     split at h
     ·simp at h
     ·rename_i hc;rw [if_neg hc]
    ·rename_i hl;rw [hl]
   ·simp at h
  simp only [ghost1T] at h
  simp only [ghost1]
  split at h
  ·rename_i σ1 h1
   injection h with h;subst h
   obtain ⟨s',e1,e2⟩:=key _ h1
   exact ⟨s',by rw [e1],e2⟩
  ·rename_i h1
   injection h with h;subst h
   exact ⟨⟨l,H⟩,by rw [keyN h1],hr,rfl⟩
 | frzp i=>
  have key:∀ σ1,frzpT i ⟨t,H⟩=some σ1→∃ s',frzp1 i ⟨l,H⟩=some s'∧SRel σ1 s':=by
   intro σ1 h
   simp only [frzpT,hr.1] at h
   simp only [frzp1]
   split at h
   case h_2=>simp at h
   rename_i hs
   simp only [hs]
   split at h
   case h_2=>simp at h
   rename_i hl
   rw [hl];dsimp only
   split at h
   case isFalse=>simp at h
   rename_i hc
   rw [if_pos hc]
   injection h with h;subst h
   exact ⟨_,rfl,hr.put _ _,rfl⟩
  have keyN:frzpT i ⟨t,H⟩=none→frzp1 i ⟨l,H⟩=none:=by
   intro h
   cases h2:frzp1 i ⟨l,H⟩ with
   | none=>rfl
   | some s2=>
    exfalso
    simp only [frzp1] at h2
    simp only [frzpT,hr.1] at h
    split at h2
    case h_2=>simp at h2
    rename_i hs
    simp only [hs] at h
    split at h2
    case h_2=>simp at h2
    rename_i hl
    rw [hl] at h;dsimp only at h
    split at h2
    case isFalse=>simp at h2
    rename_i hc
    rw [if_pos hc] at h;simp at h
  simp only [ghost1T] at h
  simp only [ghost1]
  split at h
  ·rename_i σ1 h1
   injection h with h;subst h
   obtain ⟨s',e1,e2⟩:=key _ h1
   exact ⟨s',by rw [e1],e2⟩
  ·rename_i h1
   injection h with h;subst h
   exact ⟨⟨l,H⟩,by rw [keyN h1],hr,rfl⟩
 | prom i sz=>
  simp only [ghost1T,hr.1] at h
  simp only [ghost1]
  split at h
  case h_2=>
   rename_i hne
   injection h with h;subst h
   refine ⟨⟨l,H⟩,?_,hr,rfl⟩
   split
   ·rename_i hs;exact (hne hs).elim
   ·rfl
  rename_i hs
  simp only [hs]
  injection h with h;subst h
  exact ⟨_,rfl,hr.put _ _,rfl⟩
 | promf i off sz=>
  simp only [ghost1T,hr.1] at h
  simp only [ghost1]
  split at h
  case h_2=>
   rename_i hne
   injection h with h;subst h
   refine ⟨⟨l,H⟩,?_,hr,rfl⟩
   split
   ·rename_i id ext e o hs;exact (hne id ext e o hs).elim
   ·rfl
  rename_i id ext e o hs
  simp only [hs]
  split at h
  case h_2=>
   rename_i hne
   injection h with h;subst h
   refine ⟨⟨l,H⟩,?_,hr,rfl⟩
   split
   ·rename_i hl;exact (hne hl).elim
   ·rfl
  rename_i hl
  simp only [hl]
  split at h
  case h_2=>simp at h
  rename_i H' hst
  simp only [hst]
  injection h with h;subst h
  exact ⟨_,rfl,hr,rfl⟩
 | frzb i off=>
  simp only [ghost1T,hr.1] at h
  simp only [ghost1]
  split at h
  case h_2=>
   rename_i hne
   injection h with h;subst h
   refine ⟨⟨l,H⟩,?_,hr,rfl⟩
   split
   ·rename_i id ext e o hs;exact (hne id ext e o hs).elim
   ·rfl
  rename_i id ext e o hs
  simp only [hs]
  split at h
  case h_2=>
   rename_i hne
   injection h with h;subst h
   refine ⟨⟨l,H⟩,?_,hr,rfl⟩
   split
   ·rename_i j a b c hs;exact (hne j a b c hs).elim
   ·rfl
  rename_i j ext' off' len' hl
  simp only [hl]
  split at h
  ·simp at h
  rename_i hji
  rw [if_neg hji]
  split at h
  case h_2=>
   rename_i hne
   injection h with h;subst h
   refine ⟨⟨l,H⟩,?_,hr,rfl⟩
   split
   ·rename_i r H1 hs;exact (hne r H1 hs).elim
   ·rfl
  rename_i r H1 hz
  simp only [hz]
  split at h
  case h_2=>simp at h
  rename_i H' hst
  simp only [hst]
  injection h with h;subst h
  exact ⟨_,rfl,hr,rfl⟩
 | cut i=>
  simp only [ghost1T,hr.1] at h
  simp only [ghost1]
  split at h
  case h_2=>simp at h
  rename_i id ext len hs
  simp only [hs]
  split at h
  case h_2=>simp at h
  rename_i sz es hl
  simp only [hl]
  rw [(hr.put i .any).bels id] at h
  split at h
  case isFalse=>simp at h
  rename_i hc
  rw [if_pos hc]
  injection h with h;subst h
  exact ⟨_,rfl,hr.put _ _,rfl⟩
theorem ghostsT_sound {base:Nat}:∀ (gs:List GA) {σ σ':ST} {s:St},SRel σ s→ghostsT base gs σ=some σ'→∃ s',ghosts base gs s=some s'∧SRel σ' s'
 | [],σ,σ',s,hr,h=>by simp only [ghostsT,Option.some.injEq] at h;subst h;exact ⟨s,rfl,hr⟩
 | g::gs,σ,σ',s,hr,h=>by
  rw [ghostsT] at h
  split at h
  case h_2=>simp at h
  rename_i σ1 h1
  obtain ⟨s1,e1,e2⟩:=ghost1T_sound hr h1
  obtain ⟨s2,e3,e4⟩:=ghostsT_sound gs e2 h
  exact ⟨s2,by rw [ghosts,e1];exact e3,e4⟩
def resultsT (rs:List (Sum Nat (Nat×Nat×Bool))) (s:ST):Option (List AV):=
 match rs with
 | []=>some []
 | .inl t::r=>(match resultsT r s with | some l=>some (s.tmps.get t::l) | none=>none)
 | .inr (t,n,ag)::r=>(match loadAt s.H n ag (s.tmps.get t),resultsT r s with | some v,some l=>some (v::l) | _,_=>none)
theorem resultsT_eq {σ:ST} {s:St} (hr:SRel σ s):∀ rs,resultsT rs σ=resultsOf rs s
 | []=>rfl
 | .inl t::r=>by simp only [resultsT,resultsOf,resultsT_eq hr r,hr.1.1];rfl
 | .inr (t,n,ag)::r=>by simp only [resultsT,resultsOf,resultsT_eq hr r,hr.1.1,hr.2];rfl
abbrev EXT:=RC→Nat→ST→Option (Ex×ST)
def startT (rf:RF) (args:List AV):T:=⟨rf.ntmps,T.puts args 0⟩
def cMkT (ex:EXT) (rf:RF) (args:List AV):Option AV:=match args with
 | .pown 0 0 0 0::as=>if as.length=rf.nargs∧rf.nargs≤rf.ntmps then
  (match ex rf.body 0 ⟨startT rf as,[]⟩ with
   | some (.exit _,_)=>none
   | some (_,s')=>(match resultsT rf.results s' with
    | some [v]=>mkRes s'.H v
    | _=>none)
   | none=>none)
  else none
 | _=>none
def cIT (fns:Nat→Option RF) (ex:EXT):CI:=fun f args=>match fns f with
 | some rf=>if args.length=rf.nargs∧rf.nargs≤rf.ntmps then
  (match ex rf.body 0 ⟨startT rf args,[]⟩ with
   | some (.exit _,_)=>none
   | some (_,s')=>(match resultsT rf.results s' with | some l=>pack s'.H (oneOf l) | none=>none)
   | none=>none)
  else cMkT ex rf args
 | none=>none
def putPT:List Nat→List AV→T→T
 | p::ps,x::xs,t=>putPT ps xs (t.put p x)
 | _,_,t=>t
theorem putPT_rel:∀ (ps:List Nat) (xs:List AV) {τ:T} {l:List AV},Rel τ l→Rel (putPT ps xs τ) (putP ps xs l)
 | p::ps,x::xs,_,_,h=>by rw [putPT,putP];exact putPT_rel ps xs (h.put p x)
 | [],_,_,_,h=>by rw [putPT,putP]<;>simp_all
 | _::_,[],_,_,h=>by rw [putPT,putP]<;>simp_all
def rndT (ex:EXT) (args:List AV) (H:List Obj):Option (AV×List Obj):=match args with
 | .yld l::xs=>(match H[l]? with
  | some (.lp .ready t ps asg body)=>if xs.length=ps.length then
   (match ex asg H.length ⟨putPT ps xs (T.ofL t),H⟩ with
    | some (.normal,s1)=>(match lpSet .ready .busy s1.H l with
     | some H1=>(match ex body H.length ⟨s1.tmps,H1⟩ with
      | some (.normal,s2)=>(match lpSet .busy .ready s2.H l with | some H2=>some (.bool true,H2) | none=>none)
      | some (e,s2)=>(match lpSet .busy (.done e) s2.H l with | some H2=>some (.bool false,H2) | none=>none)
      | none=>none)
     | none=>none)
    | _=>none) else none
  | _=>none)
 | _=>none
def cHT (fns:Nat→Option RF) (ex:EXT):CH:=fun f args H=>match f with
 | none=>rndT ex args H
 | some f=>match fns f with
 | some rf=>if args.length=rf.nargs∧rf.nargs≤rf.ntmps then
  (match ex rf.body H.length ⟨startT rf args,H⟩ with
   | some (.exit _,_)=>none
   | some (_,s')=>(match resultsT rf.results s' with | some l=>some (oneOf l,s'.H) | none=>none)
   | none=>none)
  else none
 | none=>none
def execT (E:Env) (hp:Nat→Bool):Nat→EXT
 | 0,_,_,_=>none
 | n+1,c,base,s=>
  match c with
  | .bad=>none
  | .skip=>some (.normal,s)
  | .ret=>some (.ret,s)
  | .exit id=>some (.exit id,s)
  | .seq a b=>(match execT E hp n a base s with
   | some (.normal,s')=>execT E hp n b base s'
   | r=>r)
  | .cond x a b=>(match evT E.glob s.tmps x with
   | .bool true=>execT E hp n a base s
   | .bool false=>execT E hp n b base s
   | _=>none)
  | .block id b=>(match execT E hp n b base s with
   | some (.exit i,s')=>if i=id then some (.normal,s') else some (.exit i,s')
   | r=>r)
  | .loop b=>(match execT E hp n b base s with
   | some (.normal,s')=>execT E hp n (.loop b) base s'
   | r=>r)
  | .reg ops=>(match runOpsT E.glob hp (cIT E.fns (execT E hp n)) (cHT E.fns (execT E hp n)) ops s.tmps s.H with
   | some (t,H)=>some (.normal,⟨t,H⟩)
   | none=>none)
  | .draw ops=>(match runOpsT E.glob (fun _=>false) (cIT E.fns (execT E hp n)) (fun _ _ _=>none) ops s.tmps s.H with
   | some (t,H)=>some (.normal,⟨t,H⟩)
   | none=>none)
  | .drawX ops bf=>(match runXT E.glob hp (cIT E.fns (execT E hp n)) (cHT E.fns (execT E hp n)) bf ops 0 [] [] s.tmps s.H with
   | some (t,H)=>some (.normal,⟨t,H⟩)
   | none=>none)
  | .drawW ops k ps=>(match runDT E.glob (cIT E.fns (execT E hp n)) s.H.length ops s.tmps (s.H++List.replicate k .rsv) with
   | some (t,H,fs)=>if pairsDisj fs ps=true then some (.normal,⟨t,H⟩) else none
   | none=>none)
  | .gh pre r post=>(match ghostsT base pre s with
   | some s0=>(match execT E hp n r base s0 with
    | some (.normal,s')=>(match ghostsT base post s' with | some s''=>some (.normal,s'') | none=>none)
    | r=>r)
   | none=>none)
  | .rfn g ps asg body=>(match evT E.glob s.tmps g with
   | .fn f cap=>(match cHT E.fns (execT E hp n) (some f) (.yld s.H.length::cap) (s.H++[.lp .ready s.tmps.toL ps asg body]) with
    | some (_,H')=>(match lpEnd H' s.H.length with
     | some e=>some (e,⟨s.tmps,H'.set s.H.length .dead⟩)
     | none=>none)
    | none=>none)
   | _=>none)
theorem start_rel {rf:RF} {args:List AV} (h1:args.length=rf.nargs) (h2:rf.nargs≤rf.ntmps):Rel (startT rf args) (start rf args):=by
 refine ⟨fun n=>?_,by simp [startT,start];omega,(T.keys_puts _ _).1⟩
 simp only [startT,T.get,T.getL_puts,Nat.zero_le,if_true,Nat.sub_zero,start]
 simp only [List.getD]
 by_cases h:n < args.length
 ·rw [List.getElem?_append_left h]
 ·rw [List.getElem?_eq_none (by omega),List.getElem?_append_right (by omega),List.getElem?_replicate]
  split<;>rfl
def SimE (ex:EX) (ext:EXT):Prop:=∀ c base σ s e σ',SRel σ s→ext c base σ=some (e,σ')→∃ s',ex c base s=some (e,s')∧SRel σ' s'
theorem cMkT_le {ex:EX} {ext:EXT} (h:SimE ex ext) {rf:RF} {xs:List AV} {r:AV} (hr:cMkT ext rf xs=some r):cMk ex rf xs=some r∧xs.length=rf.nargs+1:=by
 unfold cMkT at hr
 unfold cMk
 split at hr
 case h_2=>simp at hr
 rename_i as
 split at hr
 case isFalse=>simp at hr
 rename_i hc
 refine ⟨?_,by simp [hc.1]⟩
 change (if as.length=rf.nargs then _ else none)=some r
 rw [if_pos hc.1]
 split at hr
 ·simp at hr
 ·rename_i e s' hne he
  obtain ⟨s2,e1,e2⟩:=h _ _ _ ⟨start rf as,[]⟩ _ _ ⟨start_rel hc.1 hc.2,rfl⟩ he
  rw [e1]
  cases e with
  | exit i=>exact (hne i rfl).elim
  | normal=>dsimp only;rw [←resultsT_eq e2,←e2.2];exact hr
  | ret=>dsimp only;rw [←resultsT_eq e2,←e2.2];exact hr
 ·simp at hr
theorem cIT_le (fns:Nat→Option RF) {ex:EX} {ext:EXT} (h:SimE ex ext):(cIT fns ext).le (cIF fns ex):=by
 intro f xs r hr
 unfold cIT at hr
 unfold cIF
 split at hr
 case h_2=>simp at hr
 rename_i rf hrf
 rw [hrf];dsimp only
 split at hr
 case isFalse=>
  obtain ⟨h1,h2⟩:=cMkT_le h hr
  rw [if_neg (by omega)];exact h1
 rename_i hc
 rw [if_pos hc.1]
 split at hr
 ·simp at hr
 ·rename_i e s' hne he
  obtain ⟨s2,e1,e2⟩:=h _ _ _ ⟨start rf xs,[]⟩ _ _ ⟨start_rel hc.1 hc.2,rfl⟩ he
  rw [e1]
  cases e with
  | exit i=>exact (hne i rfl).elim
  | normal=>dsimp only;rw [←resultsT_eq e2,←e2.2];exact hr
  | ret=>dsimp only;rw [←resultsT_eq e2,←e2.2];exact hr
 ·simp at hr
theorem rndT_sound {ex:EX} {ext:EXT} (h:SimE ex ext) {xs:List AV} {H:List Obj} {r:AV×List Obj} (e:rndT ext xs H=some r):rnd ex xs H=some r:=by
 unfold rndT at e
 unfold rnd
 split at e
 case h_2=>simp at e
 rename_i l xs
 dsimp only
 split at e
 case h_2=>simp at e
 rename_i t ps asg body hl
 rw [hl];dsimp only
 split at e
 case isFalse=>simp at e
 rename_i hlen
 rw [if_pos hlen]
 split at e
 case h_2=>simp at e
 rename_i σ1 h1
 obtain ⟨s1,e1,e2⟩:=h _ _ _ ⟨putP ps xs t,H⟩ _ _ ⟨putPT_rel ps xs (Rel.ofL t),rfl⟩ h1
 rw [e1];dsimp only
 rw [e2.2] at e
 split at e
 case h_2=>simp at e
 rename_i H1 hH1
 rw [hH1];dsimp only
 split at e
 ·rename_i σ2 h2
  obtain ⟨s2,e3,e4⟩:=h _ _ ⟨σ1.tmps,H1⟩ ⟨s1.tmps,H1⟩ _ _ ⟨e2.1,rfl⟩ h2
  rw [e3];dsimp only
  rw [←e4.2];exact e
 ·rename_i e' σ2 hne h2
  obtain ⟨s2,e3,e4⟩:=h _ _ ⟨σ1.tmps,H1⟩ ⟨s1.tmps,H1⟩ _ _ ⟨e2.1,rfl⟩ h2
  rw [e3]
  cases e' with
  | normal=>exact (hne rfl).elim
  | exit i=>dsimp only;rw [←e4.2];exact e
  | ret=>dsimp only;rw [←e4.2];exact e
 ·simp at e
theorem cHT_le (fns:Nat→Option RF) {ex:EX} {ext:EXT} (h:SimE ex ext):(cHT fns ext).le (cHF fns ex):=by
 intro f xs H r hr
 unfold cHT at hr
 unfold cHF
 cases f with
 | none=>exact rndT_sound h hr
 | some f=>
 dsimp only at hr ⊢
 split at hr
 case h_2=>simp at hr
 rename_i rf hrf
 rw [hrf];dsimp only
 split at hr
 case isFalse=>simp at hr
 rename_i hc
 rw [if_pos hc.1]
 split at hr
 ·simp at hr
 ·rename_i e s' hne he
  obtain ⟨s2,e1,e2⟩:=h _ _ _ ⟨start rf xs,H⟩ _ _ ⟨start_rel hc.1 hc.2,rfl⟩ he
  rw [e1]
  cases e with
  | exit i=>exact (hne i rfl).elim
  | normal=>dsimp only;rw [←resultsT_eq e2,←e2.2];exact hr
  | ret=>dsimp only;rw [←resultsT_eq e2,←e2.2];exact hr
 ·simp at hr
theorem execT_sound (E:Env) (hp:Nat→Bool):∀ n,SimE (exec E hp n) (execT E hp n)
 | 0=>by intro c base σ s e σ' _ h;simp [execT] at h
 | n+1=>by
  have ih:=execT_sound E hp n
  intro c base σ s e σ' hr h
  cases c with
  | bad=>simp [execT] at h
  | skip=>simp only [execT,Option.some.injEq,Prod.mk.injEq] at h;obtain ⟨rfl,rfl⟩:=h;exact ⟨s,rfl,hr⟩
  | ret=>simp only [execT,Option.some.injEq,Prod.mk.injEq] at h;obtain ⟨rfl,rfl⟩:=h;exact ⟨s,rfl,hr⟩
  | exit i=>simp only [execT,Option.some.injEq,Prod.mk.injEq] at h;obtain ⟨rfl,rfl⟩:=h;exact ⟨s,rfl,hr⟩
  | seq a b=>
   simp only [execT] at h
   simp only [exec]
   split at h
   ·rename_i σ1 h1
    obtain ⟨s1,e1,e2⟩:=ih _ _ _ _ _ _ hr h1
    rw [e1]
    exact ih _ _ _ _ _ _ e2 h
   ·rename_i hne
    obtain ⟨s1,e1,e2⟩:=ih _ _ _ _ _ _ hr h
    rw [e1]
    cases e with
    | normal=>exact (hne _ h).elim
    | _=>exact ⟨s1,rfl,e2⟩
  | cond x a b=>
   simp only [execT,hr.1.ev] at h
   simp only [exec]
   split at h
   ·rename_i hx;rw [hx];exact ih _ _ _ _ _ _ hr h
   ·rename_i hx;rw [hx];exact ih _ _ _ _ _ _ hr h
   ·simp at h
  | block i b=>
   simp only [execT] at h
   simp only [exec]
   split at h
   ·rename_i j σ1 h1
    obtain ⟨s1,e1,e2⟩:=ih _ _ _ _ _ _ hr h1
    rw [e1];dsimp only
    split at h
    ·rename_i hj;rw [if_pos hj];simp only [Option.some.injEq,Prod.mk.injEq] at h;obtain ⟨rfl,rfl⟩:=h;exact ⟨s1,rfl,e2⟩
    ·rename_i hj;rw [if_neg hj];simp only [Option.some.injEq,Prod.mk.injEq] at h;obtain ⟨rfl,rfl⟩:=h;exact ⟨s1,rfl,e2⟩
   ·rename_i hne
    obtain ⟨s1,e1,e2⟩:=ih _ _ _ _ _ _ hr h
    rw [e1]
    cases e with
    | exit j=>exact (hne _ _ h).elim
    | _=>exact ⟨s1,rfl,e2⟩
  | loop b=>
   simp only [execT] at h
   simp only [exec]
   split at h
   ·rename_i σ1 h1
    obtain ⟨s1,e1,e2⟩:=ih _ _ _ _ _ _ hr h1
    rw [e1]
    exact ih _ _ _ _ _ _ e2 h
   ·rename_i hne
    obtain ⟨s1,e1,e2⟩:=ih _ _ _ _ _ _ hr h
    rw [e1]
    cases e with
    | normal=>exact (hne _ h).elim
    | _=>exact ⟨s1,rfl,e2⟩
  | reg ops=>
   simp only [execT] at h
   simp only [exec]
   split at h
   case h_2=>simp at h
   rename_i t H h1
   simp only [Option.some.injEq,Prod.mk.injEq] at h
   obtain ⟨rfl,rfl⟩:=h
   rw [hr.2] at h1
   obtain ⟨l',e1,e2⟩:=runOpsT_sound E.glob hp (cIT_le E.fns ih) (cHT_le E.fns ih) ops hr.1 h1
   exact ⟨⟨l',H⟩,by rw [e1],e2,rfl⟩
  | draw ops=>
   simp only [execT] at h
   simp only [exec]
   split at h
   case h_2=>simp at h
   rename_i t H h1
   simp only [Option.some.injEq,Prod.mk.injEq] at h
   obtain ⟨rfl,rfl⟩:=h
   rw [hr.2] at h1
   obtain ⟨l',e1,e2⟩:=runOpsT_sound E.glob (fun _=>false) (cIT_le E.fns ih) (cH:=fun _ _ _=>none) (fun _ _ _ _ h=>h) ops hr.1 h1
   exact ⟨⟨l',H⟩,by rw [e1],e2,rfl⟩
  | drawX ops bf=>
   simp only [execT] at h
   simp only [exec]
   split at h
   case h_2=>simp at h
   rename_i t H h1
   simp only [Option.some.injEq,Prod.mk.injEq] at h
   obtain ⟨rfl,rfl⟩:=h
   rw [hr.2] at h1
   obtain ⟨l',e1,e2⟩:=runXT_sound E.glob hp (cIT_le E.fns ih) (cHT_le E.fns ih) bf ops hr.1 h1
   exact ⟨⟨l',H⟩,by rw [e1],e2,rfl⟩
  | drawW ops k ps=>
   simp only [execT] at h
   simp only [exec]
   split at h
   case h_2=>simp at h
   rename_i t H fs h1
   split at h
   case isFalse=>simp at h
   rename_i hps
   simp only [Option.some.injEq,Prod.mk.injEq] at h
   obtain ⟨rfl,rfl⟩:=h
   rw [hr.2] at h1
   obtain ⟨l',e1,e2⟩:=runDT_sound E.glob (cIT_le E.fns ih) ops hr.1 h1
   exact ⟨⟨l',H⟩,by rw [e1];dsimp only;rw [if_pos hps],e2,rfl⟩
  | gh pre r post=>
   simp only [execT] at h
   simp only [exec]
   split at h
   case h_2=>simp at h
   rename_i σ0 h0
   obtain ⟨s0,e1,e2⟩:=ghostsT_sound pre hr h0
   rw [e1];dsimp only
   split at h
   ·rename_i σ1 h1
    obtain ⟨s1,e3,e4⟩:=ih _ _ _ _ _ _ e2 h1
    rw [e3];dsimp only
    split at h
    case h_2=>simp at h
    rename_i σ2 h2
    obtain ⟨s2,e5,e6⟩:=ghostsT_sound post e4 h2
    rw [e5];dsimp only
    simp only [Option.some.injEq,Prod.mk.injEq] at h
    obtain ⟨rfl,rfl⟩:=h
    exact ⟨s2,rfl,e6⟩
   ·rename_i hne
    obtain ⟨s1,e3,e4⟩:=ih _ _ _ _ _ _ e2 h
    rw [e3]
    cases e with
    | normal=>exact (hne _ h).elim
    | _=>exact ⟨s1,rfl,e4⟩
  | rfn g ps asg body=>
   simp only [execT,hr.1.ev,hr.1.toL] at h
   simp only [exec]
   split at h
   case h_2=>simp at h
   rename_i f cap hx
   rw [hx];dsimp only
   rw [hr.2] at h
   split at h
   case h_2=>simp at h
   rename_i u H' h1
   have:=cHT_le E.fns ih _ _ _ _ h1
   rw [this];dsimp only
   split at h
   case h_2=>simp at h
   rename_i e' h2
   simp only [Option.some.injEq,Prod.mk.injEq] at h
   obtain ⟨rfl,rfl⟩:=h
   rw [h2]
   exact ⟨_,rfl,hr.1,rfl⟩
end Go.Am.As
