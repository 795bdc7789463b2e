/- The abstract machine with its slots in an association list, for proofs: what it computes, the machine computes. No condition. -/
import Derived.Test.YtafgdbaekppjcaaGreatDoorAmZ
set_option linter.unusedSectionVars false
set_option linter.unusedVariables false
set_option linter.unusedSimpArgs false
namespace Go.Am.As
structure T where
 sz:Nat
 l:List (Nat×AV)
namespace T
def eK:List (Nat×AV)->Nat->AV
 | [],_=> .any
 | (k,v)::r,n=>if k=n then v else eK r n
def qP:List (Nat×AV)->Nat->AV->List (Nat×AV)
 | [],n,x=>[(n,x)]
 | (k,v)::r,n,x=>if k=n then (n,x)::r else if n < k then (n,x)::(k,v)::r else (k,v)::qP r n x
def lT:List (Nat×AV)->Nat->List (Nat×AV)
 | [],_=>[]
 | (k,v)::r,n=>if k=n then lT r n else (k,v)::lT r n
def kf (n:Nat):List (Nat×AV)->Bool
 | []=>true
 | (_,v)::r=>v.bA n&&kf n r
def get (t:T) (n:Nat):AV:=eK t.l n
def put (t:T) (n:Nat) (x:AV):T:=if n < t.sz then ⟨t.sz,qP t.l n x⟩ else t
def fe:List Nat->T->T
 | [],t=>t
 | d::ds,t=>fe ds ⟨t.sz,lT t.l d⟩
def aS (n:Nat) (t:T):Bool:=kf n t.l
def jC:List AV->Nat->List (Nat×AV)
 | [],_=>[]
 | x::xs,i=>(i,x)::jC xs (i+1)
theorem Mj (n m:Nat):Nat.beq n m=decide (n=m):=by
 cases h:Nat.beq n m with
 | true=>simp [Nat.eq_of_beq_eq_true h]
 | false=>have:=Nat.ne_of_beq_eq_false h;simp [this]
theorem rL:∀ (t:List (Nat×AV)) (i j:Nat) (x:AV),eK (qP t i x) j=if j=i then x else eK t j
 | [],i,j,x=>by
  simp only [qP,eK];by_cases h:i=j
  ·simp [h]
  ·have h':¬ j=i:=fun e=>h e.symm
   simp [h,h']
 | (k,v)::r,i,j,x=>by
  simp only [qP];by_cases hk:k=i
  ·subst hk;simp only [if_true,eK];by_cases h:k=j
   ·simp [h]
   ·have h':¬ j=k:=fun e=>h e.symm
    simp [h,h']
  ·by_cases hlt:i < k
   ·simp only [hk,hlt,if_false,if_true,eK];by_cases h:i=j
    ·simp [h]
    ·have h':¬ j=i:=fun e=>h e.symm
     simp [h,h']
   ·simp only [hk,hlt,if_false,eK,rL r];by_cases h:k=j
    ·subst h;simp [hk]
    ·simp [h]
theorem nv:∀ (t:List (Nat×AV)) (i j:Nat),eK (lT t i) j=if j=i then .any else eK t j
 | [],i,j=>by simp [lT,eK]
 | (k,v)::r,i,j=>by
  simp only [lT];by_cases hk:k=i
  ·subst hk;simp only [if_true,nv r,eK];by_cases h:k=j
   ·simp [h]
   ·have h':¬ j=k:=fun e=>h e.symm
    simp [h,h']
  ·simp only [hk,if_false,eK,nv r];by_cases h:k=j
   ·subst h;simp [hk]
   ·simp [h]
theorem rX:∀ (xs:List AV) (i j:Nat),eK (jC xs i) j=if i<=j then xs.getD (j - i) .any else .any
 | [],i,j=>by simp [jC,eK]
 | x::xs,i,j=>by
  simp only [jC,eK,rX xs];by_cases h:i=j
  ·subst h;simp
  ·simp only [h,if_false];by_cases h2:i<=j
   ·have e:j - i=(j - (i+1))+1:=by omega
    rw [if_pos (by omega),if_pos h2,e];rfl
   ·rw [if_neg (by omega),if_neg h2]
def keys (t:List (Nat×AV)):List Nat:=t.map (·.1)
abbrev GK (l:List Nat):Prop:=l.Pairwise (· < ·)
theorem qg:∀ (t:List (Nat×AV)),GK (keys t)->∀ k v,(k,v)∈t->eK t k=v
 | [],_,k,v,h=>by simp at h
 | (i,u)::r,hn,k,v,h=>by
  simp only [keys,List.map_cons,List.pairwise_cons] at hn;simp only [eK];rcases List.mem_cons.1 h with h | h
  ·injection h with h1 h2;subst h1;subst h2;simp
  ·have:i≠k:=by rintro rfl;exact Nat.lt_irrefl _ (hn.1 _ (List.mem_map.2 ⟨_,h,rfl⟩))
   simp only [this,if_false];exact qg r hn.2 k v h
theorem Gt (n:Nat) (t:List (Nat×AV)) (hn:GK (keys t)):kf n t=true↔∀ i,(eK t i).bA n=true:=by
 constructor
 ·intro h;clear hn;induction t with
  | nil=>intro i;simp [eK,AV.bA]
  | cons x r ih=>
   obtain ⟨k,v⟩:=x;simp only [kf,Bool.and_eq_true] at h;intro i;simp only [eK];by_cases hk:k=i
   ·simp [hk,h.1]
   ·simp [hk,ih h.2 i]
 ·intro h;have:∀ s:List (Nat×AV),(∀ k v,(k,v)∈s->v.bA n=true)->kf n s=true:=by
   intro s;induction s with
   | nil=>intro _;rfl
   | cons x r ih=>
    intro hs;obtain ⟨k,v⟩:=x;simp only [kf,Bool.and_eq_true];exact ⟨hs k v (by simp),ih fun k' v' hm=>hs k' v' (by simp [hm])⟩
  refine this t fun k v hm=>?_
  rw [<-qg t hn k v hm];exact h k
theorem ya:∀ (t:List (Nat×AV)) (n:Nat) (x:AV),(∀ k∈keys (qP t n x),k=n\/k∈keys t)/\(GK (keys t)->GK (keys (qP t n x)))
 | [],n,x=>by simp [qP,keys,GK]
 | (k,v)::r,n,x=>by
  obtain ⟨h1,h2⟩:=ya r n x;simp only [qP];by_cases hk:k=n
  ·subst hk;simp [keys]
  ·by_cases hlt:n < k
   ·simp only [hk,hlt,if_false,if_true];refine ⟨fun j hj=>by simpa [keys] using hj,fun hn=>?_⟩;simp only [keys,List.map_cons,GK,List.pairwise_cons,List.mem_cons,forall_eq_or_imp] at hn ⊢;exact ⟨⟨hlt,fun j hj=>Nat.lt_trans hlt (hn.1 j hj)⟩,hn⟩
   ·simp only [hk,hlt,if_false];constructor
    ·intro j hj;simp only [keys,List.map_cons,List.mem_cons] at hj ⊢;rcases hj with hj | hj
     ·exact .inr (.inl hj)
     ·rcases h1 j hj with e | e
      ·exact .inl e
      ·exact .inr (.inr e)
    ·intro hn;simp only [keys,List.map_cons,GK,List.pairwise_cons] at hn ⊢;refine ⟨fun j hm=>?_,h2 hn.2⟩;rcases h1 j hm with e | e
     ·omega
     ·exact hn.1 j e
theorem rY:∀ (t:List (Nat×AV)) (n:Nat),(keys (lT t n)).Sublist (keys t)
 | [],n=>by simp [lT,keys]
 | (k,v)::r,n=>by
  simp only [lT];by_cases h:k=n
  ·simp only [h,if_true];exact (rY r n).trans (List.sublist_cons_self _ _)
  ·simp only [h,if_false];exact (rY r n).cons_cons _
theorem rZ:∀ (xs:List AV) (i:Nat),GK (keys (jC xs i))/\∀ k∈keys (jC xs i),i<=k
 | [],i=>by simp [jC,keys,GK]
 | x::xs,i=>by
  obtain ⟨h1,h2⟩:=rZ xs (i+1);simp only [jC,keys,List.map_cons,GK,List.pairwise_cons,List.mem_cons,forall_eq_or_imp];refine ⟨⟨fun k hm=>?_,h1⟩,Nat.le_refl _,fun k hk=>?_⟩
  ·have:=h2 k hm;omega
  ·have:=h2 k hk;omega
end T
def Rel (τ:T) (l:List AV):Prop:=(∀ n,τ.get n=l.getD n .any)/\τ.sz=l.length/\T.GK (T.keys τ.l)
theorem Rel.put {τ:T} {l:List AV} (h:Rel τ l) (d:Nat) (v:AV):Rel (τ.put d v) (l.set d v):=by
 unfold T.put;rw [h.2.1];by_cases hl:d < l.length
 ·simp only [hl,if_true];refine ⟨fun n=>?_,by simp,(T.ya _ _ _).2 h.2.2⟩;simp only [T.get,T.rL];by_cases hn:n=d
  ·subst hn;simp [List.getD,hl]
  ·rw [if_neg hn];have:=h.1 n;simp only [T.get] at this;rw [this];simp only [List.getD];rw [List.getElem?_set_ne (fun e=>hn e.symm)]
 ·simp only [hl,if_false];have:l.set d v=l:=List.set_eq_of_length_le (by omega);rw [this];exact h
theorem Rel.del {τ:T} {l:List AV} (h:Rel τ l) (d:Nat):Rel ⟨τ.sz,T.lT τ.l d⟩ (l.set d .any):=by
 refine ⟨fun n=>?_,by simp [h.2.1],h.2.2.sublist (T.rY _ _)⟩;simp only [T.get,T.nv];by_cases hn:n=d
 ·subst hn;by_cases hl:n < l.length
  ·simp [List.getD,hl]
  ·simp [List.getD,hl]
 ·rw [if_neg hn];have:=h.1 n;simp only [T.get] at this;rw [this];simp only [List.getD];rw [List.getElem?_set_ne (fun e=>hn e.symm)]
theorem Rel.fe {l:List AV}:∀ (ds:List Nat) {τ:T} {l:List AV},Rel τ l->Rel (T.fe ds τ) (Am.fe ds l)
 | [],_,_,h=>h
 | d::ds,_,_,h=>Rel.fe (l:=l) ds (h.del d)
theorem Rel.aS {τ:T} {l:List AV} (h:Rel τ l) (n:Nat):T.aS n τ=AV.aS n l:=by
 have:(T.aS n τ=true)↔(AV.aS n l=true):=by
  rw [T.aS,T.Gt n _ h.2.2,xx];have e:∀ i,T.eK τ.l i=l.getD i .any:=h.1;simp only [e]
 cases h1:T.aS n τ<;>cases h2:AV.aS n l<;>simp [h1,h2] at this ⊢
def T.toL (τ:T):List AV:=(List.range τ.sz).map τ.get
def T.OB (l:List AV):T:=⟨l.length,T.jC l 0⟩
theorem Rel.toL {τ:T} {l:List AV} (h:Rel τ l):τ.toL=l:=by
 apply List.ext_getElem
 ·simp [T.toL,h.2.1]
 ·intro i h1 h2;simp only [T.toL,List.getElem_map,List.getElem_range,h.1];simp [List.getD,h2]
theorem Rel.OB (l:List AV):Rel (T.OB l) l:=by
 refine ⟨fun n=>?_,rfl,(T.rZ _ _).1⟩;simp only [T.OB,T.get,T.rX,Nat.zero_le,if_true,Nat.sub_zero]
def fI (G:Nat->List AV) (τ:T):RX->AV
 | .t n=>τ.get n
 | .c v=>v
 | .g g=> .bV (G g)
theorem Rel.ev {τ:T} {l:List AV} (h:Rel τ l) (G:Nat->List AV):fI G τ=RX.ev G l:=by
 funext r
 cases r with
 | t n=>exact h.1 n
 | _=>rfl
def cP (t:T) (d:Option Nat) (v:AV):T:=match d with | some d=>t.put d v | none=>t
def c6 (t:T):Option (Nat×Bool)->Option Bool
 | none=>some true
 | some (s,b)=>match t.get s with
  | .bool c=>some (c==b)
  | .bk []=>some false
  | _=>none
theorem Rel.want {τ:T} {l:List AV} (h:Rel τ l) (g:Option (Nat×Bool)):c6 τ g=want l g:=by
 cases g with
 | none=>rfl
 | some g=>obtain ⟨s,b⟩:=g;simp only [c6,Am.want,h.1];rfl
theorem Rel.cP {τ:T} {l:List AV} (h:Rel τ l) (d:Option Nat) (v:AV):Rel (cP τ d v) (cO l d v):=by
 cases d with
 | none=>exact h
 | some d=>exact h.put d v
def aZ (G:Nat->List AV) (hp:Nat->Bool) (cI:CI) (cH:CH):List bD->T->List Obj->Option (T×List Obj)
 | [],t,H=>some (t,H)
 | o::os,t,H=>
  match c6 t o.guard with
  | some true=>(match bY (fI G t) hp cI cH H.length o.op H with
   | some (v,H')=>GQ v fun v=>aZ G hp cI cH os (cP t o.dst v) H'
   | none=>none)
  | some false=>aZ G hp cI cH os (cP t o.dst (.bk [])) H
  | none=>none
theorem gS (G:Nat->List AV) (hp:Nat->Bool) {cI GZ:CI} {cH OC:CH} (h1:GZ.le cI) (h2:OC.le cH):∀ (os:List bD) {τ τ':T} {l:List AV} {H H':List Obj},Rel τ l->
 aZ G hp GZ OC os τ H=some (τ',H')->∃ l',bP G hp cI cH os l H=some (l',H')/\Rel τ' l'
 | [],τ,τ',l,H,H',hr,h=>by
  simp only [aZ,Option.some.injEq,Prod.mk.injEq] at h;obtain ⟨rfl,rfl⟩:=h;exact ⟨l,rfl,hr⟩
 | o::os,τ,τ',l,H,H',hr,h=>by
  rw [aZ,hr.want,hr.ev] at h;rw [bP];split at h
  ·rename_i hw;rw [hw];split at h
   case h_2=>simp at h
   rename_i v H1 he;rw [dH] at h;rw [p8,fC h1 h2 he];exact gS G hp h1 h2 os (hr.cP o.dst v) h
  ·rename_i hw;rw [hw];exact gS G hp h1 h2 os (hr.cP o.dst _) h
  ·simp at h
def kj (G:Nat->List AV) (hp:Nat->Bool) (cI:CI) (cH:CH) (o:bD) (t:T) (H:List Obj):Option (AV×List Obj):=
 match c6 t o.guard with
 | some true=>bY (fI G t) hp cI cH H.length o.op H
 | some false=>some (.bk [],H)
 | none=>none
theorem Cg (G:Nat->List AV) (hp:Nat->Bool) {cI GZ:CI} {cH OC:CH} (h1:GZ.le cI) (h2:OC.le cH) {o:bD} {τ:T} {l:List AV} {H:List Obj} {r} (hr:Rel τ l)
 (h:kj G hp GZ OC o τ H=some r):ic G hp cI cH o l H=some r:=by
 unfold kj at h;unfold ic;rw [hr.want,hr.ev] at h;split at h
 ·rename_i hw;rw [hw];dsimp only;rw [p8];exact fC h1 h2 h
 ·rename_i hw;rw [hw];exact h
 ·simp at h
def FI (G:Nat->List AV) (o:bD) (t:T):List Obj->Option AV:=fun A=>match c6 t o.guard with
 | some true=>dG (fI G t) A o.op
 | some false=>some (.bk [])
 | none=>none
theorem Sv (G:Nat->List AV) {o:bD} {τ:T} {l:List AV} (hr:Rel τ l):FI G o τ=lU G o l:=by
 funext A
 unfold FI lU;rw [hr.want,hr.ev];split<;>simp only [EC, *]
def gC (G:Nat->List AV) (hp:Nat->Bool) (cI:CI) (cH:CH) (bf:List Nat):List bD->Nat->List (Nat×(List Obj->Option AV)×AV)->List (Nat×List Obj×List Obj)->T->List Obj->Option (T×List Obj)
 | [],_,_,_,t,H=>some (t,H)
 | o::os,i,rs,hs,t,H=>
  match kj G hp cI cH o t H with
  | none=>none
  | some (v,H')=>GQ v fun v=>match o.op.kind with
   | .pure=>gC G hp cI cH bf os (i+1) rs hs (cP t o.dst v) H'
   | .read=>if (hs.all fun h=>bit bf i h.1||(iR (FI G o t) v h.2.1&&iR (FI G o t) v h.2.2))=true then
    gC G hp cI cH bf os (i+1) ((i,FI G o t,v)::rs) hs (cP t o.dst v) H' else none
   | _=>if (rs.all fun r=>bit bf i r.1||(iR r.2.1 r.2.2 H&&iR r.2.1 r.2.2 H'))=true then
    gC G hp cI cH bf os (i+1) rs ((i,H,H')::hs) (cP t o.dst v) H' else none
theorem mW (G:Nat->List AV) (hp:Nat->Bool) {cI GZ:CI} {cH OC:CH} (h1:GZ.le cI) (h2:OC.le cH) (bf:List Nat):∀ (os:List bD) {i:Nat} {rs:List (Nat×(List Obj->Option AV)×AV)} {hs:List (Nat×List Obj×List Obj)} {τ τ':T} {l:List AV} {H H':List Obj},Rel τ l->
 gC G hp GZ OC bf os i rs hs τ H=some (τ',H')->∃ l',tU G hp cI cH bf os i rs hs l H=some (l',H')/\Rel τ' l'
 | [],i,rs,hs,τ,τ',l,H,H',hr,h=>by
  simp only [gC,Option.some.injEq,Prod.mk.injEq] at h;obtain ⟨rfl,rfl⟩:=h;exact ⟨l,rfl,hr⟩
 | o::os,i,rs,hs,τ,τ',l,H,H',hr,h=>by
  rw [gC] at h;rw [tU];split at h
  ·simp at h
  rename_i v H1 ha;rw [dH] at h;rw [Cg G hp h1 h2 hr ha];dsimp only;rw [Sv G hr] at h
  cases hk:o.op.kind<;>rw [hk] at h<;>dsimp only at h ⊢
  ·exact mW G hp h1 h2 bf os (hr.cP o.dst v) h
  all_goals
   split at h
   case isFalse=>simp at h
   rename_i hc;rw [if_pos hc];exact mW G hp h1 h2 bf os (hr.cP o.dst v) h
def mu (G:Nat->List AV) (cI:CI) (pl:Nat) (o:bD) (t:T) (H:List Obj):Option (AV×List Obj×FP):=
 match c6 t o.guard with
 | some true=>if qO H pl o.op=true then
  (match eZ (fI G t) cI pl o.op H with
   | some (v,H')=>some (v,H',lF (fI G t) pl o.op)
   | none=>none) else none
 | some false=>some (.bk [],H,{})
 | none=>none
def fW (G:Nat->List AV) (cI:CI) (b:Nat):List (Nat×bD)->T->List Obj->Option (T×List Obj×List FP)
 | [],t,H=>some (t,H,[])
 | (k,o)::os,t,H=>
  match mu G cI (b+k) o t H with
  | some (v,H',f)=>GQ v fun v=>(match fW G cI b os (cP t o.dst v) H' with
   | some (t',TC,fs)=>some (t',TC,f::fs)
   | none=>none)
  | none=>none
theorem sE (G:Nat->List AV) {cI GZ:CI} (h1:GZ.le cI) {b:Nat}:∀ (os:List (Nat×bD)) {τ τ':T} {l:List AV} {H H':List Obj} {fs:List FP},Rel τ l->
 fW G GZ b os τ H=some (τ',H',fs)->∃ l',fU G cI b os l H=some (l',H',fs)/\Rel τ' l'
 | [],τ,τ',l,H,H',fs,hr,h=>by
  simp only [fW,Option.some.injEq,Prod.mk.injEq] at h;obtain ⟨rfl,rfl,rfl⟩:=h;exact ⟨l,rfl,hr⟩
 | (k,o)::os,τ,τ',l,H,H',fs,hr,h=>by
  rw [fW] at h;rw [fU];split at h
  case h_2=>simp at h
  rename_i v H1 f ha;rw [dH] at h;split at h
  case h_2=>simp at h
  rename_i t1 H2 Xi hrun;simp only [Option.some.injEq,Prod.mk.injEq] at h;obtain ⟨rfl,rfl,rfl⟩:=h;have PF:pq G cI (b+k) o l H=some (v,H1,f):=by
   unfold mu at ha;rw [hr.want,hr.ev] at ha;unfold pq;split at ha
   ·rename_i hw;rw [hw];split at ha
    case isFalse=>simp at ha
    rename_i hp;split at ha
    case h_2=>simp at ha
    rename_i u H3 he;dsimp only;rw [if_pos hp,MB,xy (b:=cI) h1 he,Q9];exact ha
   ·rename_i hw;rw [hw];exact ha
   ·simp at ha
  obtain ⟨l',e1,e2⟩:=sE G h1 os (hr.cP o.dst v) hrun;exact ⟨l',by rw [PF];dsimp only;rw [e1],e2⟩
structure ST where
 tmps:T
 H:List Obj
def om (t:Nat) (s:ST):Option ST:=
 match s.tmps.get t with
 | .own id ext off len=>
  (match aH s.H id with
   | some (_,es)=>if ext=es.length/\AV.bM 0 ((es.drop off).take len)=true/\(cw s.H id).free=true then
    some ⟨s.tmps.put t (qJ (cw s.H id) es ((es.drop off).take len)),s.H.set id .dead⟩ else none
   | none=>none)
 | _=>some s
def kg (t:Nat) (s:ST):Option ST:=
 match s.tmps.get t with
 | .ax id 1 0 0=>(match s.H[id]? with
  | some (.live .norm _ [cs])=>if AV.aS 0 cs=true then some ⟨s.tmps.put t (.bV cs),s.H.set id .dead⟩ else none
  | _=>none)
 | _=>none
def tS:List Nat->ST->ST
 | [],s=>s
 | t::ts,s=>tS ts ⟨s.tmps.put t (s.tmps.get t).wk,Lo s.H (s.tmps.get t)⟩
def aG (base:Nat) (s:ST):GA->Option ST
 | .sh t=>(match s.tmps.get t with
  | .own id _ _ _=>(match aH s.H id with | some (_,_::_)=>some ⟨s.tmps,mark Fl.sh s.H id⟩ | _=>some s)
  | _=>some s)
 | .res t=>(match s.tmps.get t with
  | .own id _ _ _=>if uc (s.H.drop (id+1))=true then some ⟨s.tmps,mark Fl.res s.H id⟩ else some s
  | _=>some s)
 | .wk l=>some (tS l s)
 | .kill l=>some ⟨T.fe l s.tmps,s.H⟩
 | .aj n=>if Nat.blt (base+n) s.H.length&&(T.aS (base+n) s.tmps&&bZ (base+n) (s.H.take (base+n))) then some ⟨s.tmps,s.H.take (base+n)⟩ else some s
 | .jx t=>(match om t s with | some s'=>some s' | none=>some s)
 | .aB t=>(match kg t s with | some s'=>some s' | none=>some s)
 | .prom t sz=>(match s.tmps.get t with
  | .bx=>some ⟨s.tmps.put t (.own s.H.length 0 0 0),s.H++[.live .nil sz []]⟩
  | _=>some s)
 | .fK t off sz=>(match s.tmps.get t with
  | .ax id ext e o=>(match loadAt s.H 1 false (.ax id ext e (o+off)) with
   | some .bx=>(match storeAt (s.H++[.live .nil sz []]) 1 (.ax id ext e (o+off)) (.own s.H.length 0 0 0) with
    | some H'=>some ⟨s.tmps,H'⟩
    | none=>none)
   | _=>some s)
  | _=>some s)
 | .iQ t off=>(match s.tmps.get t with
  | .ax id ext e o=>(match loadAt s.H 1 false (.ax id ext e (o+off)) with
   | some (.own j ext' off' len')=>if j=id then none else (match jB 0 ⟨[.own j ext' off' len'],s.H⟩ with
    | some ⟨[r],H1⟩=>(match storeAt H1 1 (.ax id ext e (o+off)) r with
     | some H'=>some ⟨s.tmps,H'⟩
     | none=>none)
    | _=>some s)
   | _=>some s)
  | _=>some s)
 | .cut t=>(match s.tmps.get t with
  | .own id ext 0 len=>(match s.H[id]? with
   | some (.live .norm sz es)=>if (Nat.ble base id&&Nat.beq (id+1) s.H.length)&&(Nat.beq ext es.length&&Nat.ble len ext)&&(T.aS id (s.tmps.put t .any)&&bZ id (s.H.take id))&&AV.bM id es then
    some ⟨s.tmps.put t (.own id len 0 len),s.H.set id (.live .norm sz (es.take len))⟩ else none
   | _=>none)
  | _=>none)
def cD (base:Nat):List GA->ST->Option ST
 | [],s=>some s
 | g::gs,s=>match aG base s g with | some s'=>cD base gs s' | none=>none
def tZ (σ:ST) (s:St):Prop:=Rel σ.tmps s.tmps/\σ.H=s.H
theorem BJ:∀ (ts:List Nat) {σ:ST} {s:St},tZ σ s->tZ (tS ts σ) (Tv ts s)
 | [],_,_,h=>h
 | t::ts,σ,s,h=>by
  simp only [tS,Tv];refine BJ ts ⟨?_,?_⟩
  ·simp only [h.1.1];exact h.1.put _ _
  ·simp only [h.1.1,h.2]
theorem wR {base:Nat} {σ σ':ST} {s:St} (hr:tZ σ s) {g:GA} (h:aG base σ g=some σ'):∃ s',c9 base s g=some s'/\tZ σ' s':=by
 by_cases hwk:∃ l,g= .wk l
 ·obtain ⟨l,rfl⟩:=hwk;simp only [aG,Option.some.injEq] at h;subst h;exact ⟨_,rfl,BJ l hr⟩
 obtain ⟨t,H⟩:=σ;obtain ⟨l,H2⟩:=s;obtain ⟨hr,hH⟩:=hr;simp only at hr hH;subst hH
 cases g with
 | sh i=>
  simp only [aG,hr.1] at h;simp only [c9];split at h
  ·rename_i hs;simp only [hs];split at h
   ·rename_i hl;simp only [hl];injection h with h;subst h;exact ⟨_,rfl,hr,rfl⟩
   ·rename_i hne;injection h with h;subst h
    refine ⟨⟨l,H⟩,?_,hr,rfl⟩;split
    ·rename_i a b c hl;exact (hne a b c hl).elim
    ·rfl
  ·rename_i hne;injection h with h;subst h
   refine ⟨⟨l,H⟩,?_,hr,rfl⟩;split
   ·rename_i id ext off len hs;exact (hne id ext off len hs).elim
   ·rfl
 | res i=>
  simp only [aG,hr.1] at h;simp only [c9];split at h
  ·rename_i hs;simp only [hs];split at h
   ·rename_i hl;rw [if_pos hl];injection h with h;subst h;exact ⟨_,rfl,hr,rfl⟩
   ·rename_i hl;rw [if_neg hl];injection h with h;subst h;exact ⟨_,rfl,hr,rfl⟩
  ·rename_i hne;injection h with h;subst h
   refine ⟨⟨l,H⟩,?_,hr,rfl⟩;split
   ·rename_i id ext off len hs;exact (hne id ext off len hs).elim
   ·rfl
 | wk l=>exact (hwk ⟨l,rfl⟩).elim
 | kill ds=>
  simp only [aG,Option.some.injEq] at h;subst h;exact ⟨_,rfl,Rel.fe (l:=l) ds hr,rfl⟩
 | aj n=>
  simp only [aG,hr.aS] at h;simp only [c9];split at h
  ·rename_i hc;rw [if_pos hc];injection h with h;subst h;exact ⟨_,rfl,hr,rfl⟩
  ·rename_i hc;rw [if_neg hc];injection h with h;subst h;exact ⟨_,rfl,hr,rfl⟩
 | jx i=>
  have key:∀ σ1,om i ⟨t,H⟩=some σ1->∃ s',jB i ⟨l,H⟩=some s'/\tZ σ1 s':=by
   intro σ1 h;simp only [om,hr.1] at h;simp only [jB];split at h
   ·rename_i hs;simp only [hs];split at h
    case h_2=>simp at h
    rename_i hl;rw [hl];dsimp only;split at h
    case isFalse=>simp at h
    rename_i hc;rw [if_pos hc];injection h with h;subst h
    exact ⟨_,rfl,hr.put _ _,rfl⟩
   ·rename_i hne;injection h with h;subst h
    refine ⟨⟨l,H⟩,?_,hr,rfl⟩;split
    ·rename_i id ext off len hs;exact (hne id ext off len hs).elim
    ·rfl
  have QT:om i ⟨t,H⟩=none->jB i ⟨l,H⟩=none:=by
   intro h;simp only [om,hr.1] at h;simp only [jB];split at h
   ·rename_i hs;simp only [hs];split at h
    ·rename_i hl;rw [hl];dsimp only;split at h
     ·simp at h
     ·rename_i hc;rw [if_neg hc]
    ·rename_i hl;rw [hl]
   ·simp at h
  simp only [aG] at h;simp only [c9];split at h
  ·rename_i σ1 h1;injection h with h;subst h
   obtain ⟨s',e1,e2⟩:=key _ h1;exact ⟨s',by rw [e1],e2⟩
  ·rename_i h1;injection h with h;subst h
   exact ⟨⟨l,H⟩,by rw [QT h1],hr,rfl⟩
 | aB i=>
  have key:∀ σ1,kg i ⟨t,H⟩=some σ1->∃ s',sn i ⟨l,H⟩=some s'/\tZ σ1 s':=by
   intro σ1 h;simp only [kg,hr.1] at h;simp only [sn];split at h
   case h_2=>simp at h
   rename_i hs;simp only [hs];split at h
   case h_2=>simp at h
   rename_i hl;rw [hl];dsimp only;split at h
   case isFalse=>simp at h
   rename_i hc;rw [if_pos hc];injection h with h;subst h
   exact ⟨_,rfl,hr.put _ _,rfl⟩
  have QT:kg i ⟨t,H⟩=none->sn i ⟨l,H⟩=none:=by
   intro h
   cases h2:sn i ⟨l,H⟩ with
   | none=>rfl
   | some s2=>
    exfalso;simp only [sn] at h2;simp only [kg,hr.1] at h;split at h2
    case h_2=>simp at h2
    rename_i hs;simp only [hs] at h;split at h2
    case h_2=>simp at h2
    rename_i hl;rw [hl] at h;dsimp only at h;split at h2
    case isFalse=>simp at h2
    rename_i hc;rw [if_pos hc] at h;simp at h
  simp only [aG] at h;simp only [c9];split at h
  ·rename_i σ1 h1;injection h with h;subst h
   obtain ⟨s',e1,e2⟩:=key _ h1;exact ⟨s',by rw [e1],e2⟩
  ·rename_i h1;injection h with h;subst h
   exact ⟨⟨l,H⟩,by rw [QT h1],hr,rfl⟩
 | prom i sz=>
  simp only [aG,hr.1] at h;simp only [c9];split at h
  case h_2=>
   rename_i hne;injection h with h;subst h
   refine ⟨⟨l,H⟩,?_,hr,rfl⟩;split
   ·rename_i hs;exact (hne hs).elim
   ·rfl
  rename_i hs;simp only [hs];injection h with h;subst h
  exact ⟨_,rfl,hr.put _ _,rfl⟩
 | fK i off sz=>
  simp only [aG,hr.1] at h;simp only [c9];split at h
  case h_2=>
   rename_i hne;injection h with h;subst h
   refine ⟨⟨l,H⟩,?_,hr,rfl⟩;split
   ·rename_i id ext e o hs;exact (hne id ext e o hs).elim
   ·rfl
  rename_i id ext e o hs;simp only [hs];split at h
  case h_2=>
   rename_i hne;injection h with h;subst h
   refine ⟨⟨l,H⟩,?_,hr,rfl⟩;split
   ·rename_i hl;exact (hne hl).elim
   ·rfl
  rename_i hl;simp only [hl];split at h
  case h_2=>simp at h
  rename_i H' hst;simp only [hst];injection h with h;subst h
  exact ⟨_,rfl,hr,rfl⟩
 | iQ i off=>
  simp only [aG,hr.1] at h;simp only [c9];split at h
  case h_2=>
   rename_i hne;injection h with h;subst h
   refine ⟨⟨l,H⟩,?_,hr,rfl⟩;split
   ·rename_i id ext e o hs;exact (hne id ext e o hs).elim
   ·rfl
  rename_i id ext e o hs;simp only [hs];split at h
  case h_2=>
   rename_i hne;injection h with h;subst h
   refine ⟨⟨l,H⟩,?_,hr,rfl⟩;split
   ·rename_i j a b c hs;exact (hne j a b c hs).elim
   ·rfl
  rename_i j ext' off' len' hl;simp only [hl];split at h
  ·simp at h
  rename_i hji;rw [if_neg hji];split at h
  case h_2=>
   rename_i hne;injection h with h;subst h
   refine ⟨⟨l,H⟩,?_,hr,rfl⟩;split
   ·rename_i r H1 hs;exact (hne r H1 hs).elim
   ·rfl
  rename_i r H1 hz;simp only [hz];split at h
  case h_2=>simp at h
  rename_i H' hst;simp only [hst];injection h with h;subst h
  exact ⟨_,rfl,hr,rfl⟩
 | cut i=>
  simp only [aG,hr.1] at h;simp only [c9];split at h
  case h_2=>simp at h
  rename_i id ext len hs;simp only [hs];split at h
  case h_2=>simp at h
  rename_i sz es hl;simp only [hl];rw [(hr.put i .any).aS id] at h;split at h
  case isFalse=>simp at h
  rename_i hc;rw [if_pos hc];injection h with h;subst h
  exact ⟨_,rfl,hr.put _ _,rfl⟩
theorem j5 {base:Nat}:∀ (gs:List GA) {σ σ':ST} {s:St},tZ σ s->cD base gs σ=some σ'->∃ s',ie base gs s=some s'/\tZ σ' s'
 | [],σ,σ',s,hr,h=>by simp only [cD,Option.some.injEq] at h;subst h;exact ⟨s,rfl,hr⟩
 | g::gs,σ,σ',s,hr,h=>by
  rw [cD] at h;split at h
  case h_2=>simp at h
  rename_i σ1 h1;obtain ⟨s1,e1,e2⟩:=wR hr h1;obtain ⟨s2,e3,e4⟩:=j5 gs e2 h;exact ⟨s2,by rw [ie,e1];exact e3,e4⟩
def bQ (rs:List (Sum Nat (Nat×Nat×Bool))) (s:ST):Option (List AV):=
 match rs with
 | []=>some []
 | .inl t::r=>(match bQ r s with | some l=>some (s.tmps.get t::l) | none=>none)
 | .inr (t,n,ag)::r=>(match loadAt s.H n ag (s.tmps.get t),bQ r s with | some v,some l=>some (v::l) | _,_=>none)
theorem dW {σ:ST} {s:St} (hr:tZ σ s):∀ rs,bQ rs σ=cF rs s
 | []=>rfl
 | .inl t::r=>by simp only [bQ,cF,dW hr r,hr.1.1];rfl
 | .inr (t,n,ag)::r=>by simp only [bQ,cF,dW hr r,hr.1.1,hr.2];rfl
abbrev o7:=RC->Nat->ST->Option (Ex×ST)
def eL (rf:RF) (args:List AV):T:=⟨rf.ntmps,T.jC args 0⟩
def CY (ex:o7) (rf:RF) (args:List AV):Option AV:=match args with
 | .ax 0 0 0 0::as=>if as.length=rf.nargs/\rf.nargs<=rf.ntmps then
  (match ex rf.body 0 ⟨eL rf as,[]⟩ with
   | some (.exit _,_)=>none
   | some (_,s')=>(match bQ rf.results s' with
    | some [v]=>pH s'.H v
    | _=>none)
   | none=>none)
  else none
 | _=>none
def jw (fns:Nat->Option RF) (ex:o7):CI:=fun f args=>match fns f with
 | some rf=>if args.length=rf.nargs/\rf.nargs<=rf.ntmps then
  (match ex rf.body 0 ⟨eL rf args,[]⟩ with
   | some (.exit _,_)=>none
   | some (_,s')=>(match bQ rf.results s' with | some l=>pack s'.H (oneOf l) | none=>none)
   | none=>none)
  else CY ex rf args
 | none=>none
def pJ:List Nat->List AV->T->T
 | p::ps,x::xs,t=>pJ ps xs (t.put p x)
 | _,_,t=>t
theorem yb:∀ (ps:List Nat) (xs:List AV) {τ:T} {l:List AV},Rel τ l->Rel (pJ ps xs τ) (sP ps xs l)
 | p::ps,x::xs,_,_,h=>by rw [pJ,sP];exact yb ps xs (h.put p x)
 | [],_,_,_,h=>by rw [pJ,sP]<;>simp_all
 | _::_,[],_,_,h=>by rw [pJ,sP]<;>simp_all
def tX (ex:o7) (args:List AV) (H:List Obj):Option (AV×List Obj):=match args with
 | .eI l::xs=>(match H[l]? with
  | some (.lp .ready t ps b9 body)=>if xs.length=ps.length then
   (match ex b9 H.length ⟨pJ ps xs (T.OB t),H⟩ with
    | some (.normal,s1)=>(match iZ .ready .busy s1.H l with
     | some H1=>(match ex body H.length ⟨s1.tmps,H1⟩ with
      | some (.normal,s2)=>(match iZ .busy .ready s2.H l with | some H2=>some (.bool true,H2) | none=>none)
      | some (e,s2)=>(match iZ .busy (.done e) s2.H l with | some H2=>some (.bool false,H2) | none=>none)
      | none=>none)
     | none=>none)
    | _=>none) else none
  | _=>none)
 | _=>none
def jE (fns:Nat->Option RF) (ex:o7):CH:=fun f args H=>match f with
 | none=>tX ex args H
 | some f=>match fns f with
 | some rf=>if args.length=rf.nargs/\rf.nargs<=rf.ntmps then
  (match ex rf.body H.length ⟨eL rf args,H⟩ with
   | some (.exit _,_)=>none
   | some (_,s')=>(match bQ rf.results s' with | some l=>some (oneOf l,s'.H) | none=>none)
   | none=>none)
  else none
 | none=>none
def aq (E:Env) (hp:Nat->Bool):Nat->o7
 | 0,_,_,_=>none
 | n+1,c,base,s=>
  match c with
  | .bad=>none
  | .skip=>some (.normal,s)
  | .ret=>some (.ret,s)
  | .exit id=>some (.exit id,s)
  | .seq a b=>(match aq E hp n a base s with
   | some (.normal,s')=>aq E hp n b base s'
   | r=>r)
  | .cond x a b=>(match fI E.aI s.tmps x with
   | .bool true=>aq E hp n a base s
   | .bool false=>aq E hp n b base s
   | _=>none)
  | .block id b=>(match aq E hp n b base s with
   | some (.exit i,s')=>if i=id then some (.normal,s') else some (.exit i,s')
   | r=>r)
  | .loop b=>(match aq E hp n b base s with
   | some (.normal,s')=>aq E hp n (.loop b) base s'
   | r=>r)
  | .sZ ops=>(match aZ E.aI hp (jw E.fns (aq E hp n)) (jE E.fns (aq E hp n)) ops s.tmps s.H with
   | some (t,H)=>some (.normal,⟨t,H⟩)
   | none=>none)
  | .draw ops=>(match aZ E.aI (fun _=>false) (jw E.fns (aq E hp n)) (fun _ _ _=>none) ops s.tmps s.H with
   | some (t,H)=>some (.normal,⟨t,H⟩)
   | none=>none)
  | .iY ops bf=>(match gC E.aI hp (jw E.fns (aq E hp n)) (jE E.fns (aq E hp n)) bf ops 0 [] [] s.tmps s.H with
   | some (t,H)=>some (.normal,⟨t,H⟩)
   | none=>none)
  | .jI ops k ps=>(match fW E.aI (jw E.fns (aq E hp n)) s.H.length ops s.tmps (s.H++List.replicate k .gB) with
   | some (t,H,fs)=>if fN fs ps=true then some (.normal,⟨t,H⟩) else none
   | none=>none)
  | .gh pre r post=>(match cD base pre s with
   | some s0=>(match aq E hp n r base s0 with
    | some (.normal,s')=>(match cD base post s' with | some s''=>some (.normal,s'') | none=>none)
    | r=>r)
   | none=>none)
  | .yB g ps b9 body=>(match fI E.aI s.tmps g with
   | .fn f cap=>(match jE E.fns (aq E hp n) (some f) (.eI s.H.length::cap) (s.H++[.lp .ready s.tmps.toL ps b9 body]) with
    | some (_,H')=>(match ke H' s.H.length with
     | some e=>some (e,⟨s.tmps,H'.set s.H.length .dead⟩)
     | none=>none)
    | none=>none)
   | _=>none)
theorem r4 {rf:RF} {args:List AV} (h1:args.length=rf.nargs) (h2:rf.nargs<=rf.ntmps):Rel (eL rf args) (start rf args):=by
 refine ⟨fun n=>?_,by simp [eL,start];omega,(T.rZ _ _).1⟩;simp only [eL,T.get,T.rX,Nat.zero_le,if_true,Nat.sub_zero,start];simp only [List.getD];by_cases h:n < args.length
 ·rw [List.getElem?_append_left h]
 ·rw [List.getElem?_eq_none (by omega),List.getElem?_append_right (by omega),List.getElem?_replicate];split<;>rfl
def Hy (ex:EX) (ext:o7):Prop:=∀ c base σ s e σ',tZ σ s->ext c base σ=some (e,σ')->∃ s',ex c base s=some (e,s')/\tZ σ' s'
theorem NW {ex:EX} {ext:o7} (h:Hy ex ext) {rf:RF} {xs:List AV} {r:AV} (hr:CY ext rf xs=some r):TD ex rf xs=some r/\xs.length=rf.nargs+1:=by
 unfold CY at hr;unfold TD;split at hr
 case h_2=>simp at hr
 rename_i as;split at hr
 case isFalse=>simp at hr
 rename_i hc;refine ⟨?_,by simp [hc.1]⟩;change (if as.length=rf.nargs then _ else none)=some r;rw [if_pos hc.1];split at hr
 ·simp at hr
 ·rename_i e s' hne he;obtain ⟨s2,e1,e2⟩:=h _ _ _ ⟨start rf as,[]⟩ _ _ ⟨r4 hc.1 hc.2,rfl⟩ he;rw [e1]
  cases e with
  | exit i=>exact (hne i rfl).elim
  | normal=>dsimp only;rw [<-dW e2,<-e2.2];exact hr
  | ret=>dsimp only;rw [<-dW e2,<-e2.2];exact hr
 ·simp at hr
theorem ux (fns:Nat->Option RF) {ex:EX} {ext:o7} (h:Hy ex ext):(jw fns ext).le (lO fns ex):=by
 intro f xs r hr;unfold jw at hr;unfold lO;split at hr
 case h_2=>simp at hr
 rename_i rf qG;rw [qG];dsimp only;split at hr
 case isFalse=>
  obtain ⟨h1,h2⟩:=NW h hr;rw [if_neg (by omega)];exact h1
 rename_i hc;rw [if_pos hc.1];split at hr
 ·simp at hr
 ·rename_i e s' hne he;obtain ⟨s2,e1,e2⟩:=h _ _ _ ⟨start rf xs,[]⟩ _ _ ⟨r4 hc.1 hc.2,rfl⟩ he;rw [e1]
  cases e with
  | exit i=>exact (hne i rfl).elim
  | normal=>dsimp only;rw [<-dW e2,<-e2.2];exact hr
  | ret=>dsimp only;rw [<-dW e2,<-e2.2];exact hr
 ·simp at hr
theorem DM {ex:EX} {ext:o7} (h:Hy ex ext) {xs:List AV} {H:List Obj} {r:AV×List Obj} (e:tX ext xs H=some r):S7 ex xs H=some r:=by
 unfold tX at e;unfold S7;split at e
 case h_2=>simp at e
 rename_i l xs;dsimp only;split at e
 case h_2=>simp at e
 rename_i t ps b9 body hl;rw [hl];dsimp only;split at e
 case isFalse=>simp at e
 rename_i hlen;rw [if_pos hlen];split at e
 case h_2=>simp at e
 rename_i σ1 h1;obtain ⟨s1,e1,e2⟩:=h _ _ _ ⟨sP ps xs t,H⟩ _ _ ⟨yb ps xs (Rel.OB t),rfl⟩ h1;rw [e1];dsimp only;rw [e2.2] at e;split at e
 case h_2=>simp at e
 rename_i H1 DX;rw [DX];dsimp only;split at e
 ·rename_i σ2 h2;obtain ⟨s2,e3,e4⟩:=h _ _ ⟨σ1.tmps,H1⟩ ⟨s1.tmps,H1⟩ _ _ ⟨e2.1,rfl⟩ h2;rw [e3];dsimp only;rw [<-e4.2];exact e
 ·rename_i e' σ2 hne h2;obtain ⟨s2,e3,e4⟩:=h _ _ ⟨σ1.tmps,H1⟩ ⟨s1.tmps,H1⟩ _ _ ⟨e2.1,rfl⟩ h2;rw [e3]
  cases e' with
  | normal=>exact (hne rfl).elim
  | exit i=>dsimp only;rw [<-e4.2];exact e
  | ret=>dsimp only;rw [<-e4.2];exact e
 ·simp at e
theorem Dm (fns:Nat->Option RF) {ex:EX} {ext:o7} (h:Hy ex ext):(jE fns ext).le (yy fns ex):=by
 intro f xs H r hr;unfold jE at hr;unfold yy
 cases f with
 | none=>exact DM h hr
 | some f=>
 dsimp only at hr ⊢;split at hr
 case h_2=>simp at hr
 rename_i rf qG;rw [qG];dsimp only;split at hr
 case isFalse=>simp at hr
 rename_i hc;rw [if_pos hc.1];split at hr
 ·simp at hr
 ·rename_i e s' hne he;obtain ⟨s2,e1,e2⟩:=h _ _ _ ⟨start rf xs,H⟩ _ _ ⟨r4 hc.1 hc.2,rfl⟩ he;rw [e1]
  cases e with
  | exit i=>exact (hne i rfl).elim
  | normal=>dsimp only;rw [<-dW e2,<-e2.2];exact hr
  | ret=>dsimp only;rw [<-dW e2,<-e2.2];exact hr
 ·simp at hr
theorem sy (E:Env) (hp:Nat->Bool):∀ n,Hy (exec E hp n) (aq E hp n)
 | 0=>by intro c base σ s e σ' _ h;simp [aq] at h
 | n+1=>by
  have ih:=sy E hp n;intro c base σ s e σ' hr h
  cases c with
  | bad=>simp [aq] at h
  | skip=>simp only [aq,Option.some.injEq,Prod.mk.injEq] at h;obtain ⟨rfl,rfl⟩:=h;exact ⟨s,rfl,hr⟩
  | ret=>simp only [aq,Option.some.injEq,Prod.mk.injEq] at h;obtain ⟨rfl,rfl⟩:=h;exact ⟨s,rfl,hr⟩
  | exit i=>simp only [aq,Option.some.injEq,Prod.mk.injEq] at h;obtain ⟨rfl,rfl⟩:=h;exact ⟨s,rfl,hr⟩
  | seq a b=>
   simp only [aq] at h;simp only [exec];split at h
   ·rename_i σ1 h1;obtain ⟨s1,e1,e2⟩:=ih _ _ _ _ _ _ hr h1;rw [e1];exact ih _ _ _ _ _ _ e2 h
   ·rename_i hne;obtain ⟨s1,e1,e2⟩:=ih _ _ _ _ _ _ hr h;rw [e1]
    cases e with
    | normal=>exact (hne _ h).elim
    | _=>exact ⟨s1,rfl,e2⟩
  | cond x a b=>
   simp only [aq,hr.1.ev] at h;simp only [exec];split at h
   ·rename_i hx;rw [hx];exact ih _ _ _ _ _ _ hr h
   ·rename_i hx;rw [hx];exact ih _ _ _ _ _ _ hr h
   ·simp at h
  | block i b=>
   simp only [aq] at h;simp only [exec];split at h
   ·rename_i j σ1 h1;obtain ⟨s1,e1,e2⟩:=ih _ _ _ _ _ _ hr h1;rw [e1];dsimp only;split at h
    ·rename_i hj;rw [if_pos hj];simp only [Option.some.injEq,Prod.mk.injEq] at h;obtain ⟨rfl,rfl⟩:=h;exact ⟨s1,rfl,e2⟩
    ·rename_i hj;rw [if_neg hj];simp only [Option.some.injEq,Prod.mk.injEq] at h;obtain ⟨rfl,rfl⟩:=h;exact ⟨s1,rfl,e2⟩
   ·rename_i hne;obtain ⟨s1,e1,e2⟩:=ih _ _ _ _ _ _ hr h;rw [e1]
    cases e with
    | exit j=>exact (hne _ _ h).elim
    | _=>exact ⟨s1,rfl,e2⟩
  | loop b=>
   simp only [aq] at h;simp only [exec];split at h
   ·rename_i σ1 h1;obtain ⟨s1,e1,e2⟩:=ih _ _ _ _ _ _ hr h1;rw [e1];exact ih _ _ _ _ _ _ e2 h
   ·rename_i hne;obtain ⟨s1,e1,e2⟩:=ih _ _ _ _ _ _ hr h;rw [e1]
    cases e with
    | normal=>exact (hne _ h).elim
    | _=>exact ⟨s1,rfl,e2⟩
  | sZ ops=>
   simp only [aq] at h;simp only [exec];split at h
   case h_2=>simp at h
   rename_i t H h1;simp only [Option.some.injEq,Prod.mk.injEq] at h;obtain ⟨rfl,rfl⟩:=h;rw [hr.2] at h1;obtain ⟨l',e1,e2⟩:=gS E.aI hp (ux E.fns ih) (Dm E.fns ih) ops hr.1 h1;exact ⟨⟨l',H⟩,by rw [e1],e2,rfl⟩
  | draw ops=>
   simp only [aq] at h;simp only [exec];split at h
   case h_2=>simp at h
   rename_i t H h1;simp only [Option.some.injEq,Prod.mk.injEq] at h;obtain ⟨rfl,rfl⟩:=h;rw [hr.2] at h1;obtain ⟨l',e1,e2⟩:=gS E.aI (fun _=>false) (ux E.fns ih) (cH:=fun _ _ _=>none) (fun _ _ _ _ h=>h) ops hr.1 h1;exact ⟨⟨l',H⟩,by rw [e1],e2,rfl⟩
  | iY ops bf=>
   simp only [aq] at h;simp only [exec];split at h
   case h_2=>simp at h
   rename_i t H h1;simp only [Option.some.injEq,Prod.mk.injEq] at h;obtain ⟨rfl,rfl⟩:=h;rw [hr.2] at h1;obtain ⟨l',e1,e2⟩:=mW E.aI hp (ux E.fns ih) (Dm E.fns ih) bf ops hr.1 h1;exact ⟨⟨l',H⟩,by rw [e1],e2,rfl⟩
  | jI ops k ps=>
   simp only [aq] at h;simp only [exec];split at h
   case h_2=>simp at h
   rename_i t H fs h1;split at h
   case isFalse=>simp at h
   rename_i hps;simp only [Option.some.injEq,Prod.mk.injEq] at h;obtain ⟨rfl,rfl⟩:=h;rw [hr.2] at h1;obtain ⟨l',e1,e2⟩:=sE E.aI (ux E.fns ih) ops hr.1 h1;exact ⟨⟨l',H⟩,by rw [e1];dsimp only;rw [if_pos hps],e2,rfl⟩
  | gh pre r post=>
   simp only [aq] at h;simp only [exec];split at h
   case h_2=>simp at h
   rename_i σ0 h0;obtain ⟨s0,e1,e2⟩:=j5 pre hr h0;rw [e1];dsimp only;split at h
   ·rename_i σ1 h1;obtain ⟨s1,e3,e4⟩:=ih _ _ _ _ _ _ e2 h1;rw [e3];dsimp only;split at h
    case h_2=>simp at h
    rename_i σ2 h2;obtain ⟨s2,e5,e6⟩:=j5 post e4 h2;rw [e5];dsimp only;simp only [Option.some.injEq,Prod.mk.injEq] at h;obtain ⟨rfl,rfl⟩:=h;exact ⟨s2,rfl,e6⟩
   ·rename_i hne;obtain ⟨s1,e3,e4⟩:=ih _ _ _ _ _ _ e2 h;rw [e3]
    cases e with
    | normal=>exact (hne _ h).elim
    | _=>exact ⟨s1,rfl,e4⟩
  | yB g ps b9 body=>
   simp only [aq,hr.1.ev,hr.1.toL] at h;simp only [exec];split at h
   case h_2=>simp at h
   rename_i f cap hx;rw [hx];dsimp only;rw [hr.2] at h;split at h
   case h_2=>simp at h
   rename_i u H' h1;have:=Dm E.fns ih _ _ _ _ h1;rw [this];dsimp only;split at h
   case h_2=>simp at h
   rename_i e' h2;simp only [Option.some.injEq,Prod.mk.injEq] at h;obtain ⟨rfl,rfl⟩:=h;rw [h2];exact ⟨_,rfl,hr.1,rfl⟩
end Go.Am.As
