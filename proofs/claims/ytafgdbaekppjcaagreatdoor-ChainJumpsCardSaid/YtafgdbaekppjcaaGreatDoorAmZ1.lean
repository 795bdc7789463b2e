/- The abstract machine with its slots in an association list, for proofs: what it computes, the machine computes. No condition. -/
import Derived.Test.YtafgdbaekppjcaaGreatDoorAmZ
set_option linter.unusedSectionVars false
set_option linter.unusedVariables false
set_option linter.unusedSimpArgs false
namespace Go.Am.As
structure T where
 sz:Nat
 l:List (Nat×AV)
namespace T
def eY:List (Nat×AV)->Nat->AV
 | [],_=> .any
 | (k,v)::r,n=>if k=n then v else eY r n
def sJ:List (Nat×AV)->Nat->AV->List (Nat×AV)
 | [],n,x=>[(n,x)]
 | (k,v)::r,n,x=>if k=n then (n,x)::r else if n < k then (n,x)::(k,v)::r else (k,v)::sJ r n x
def nh:List (Nat×AV)->Nat->List (Nat×AV)
 | [],_=>[]
 | (k,v)::r,n=>if k=n then nh r n else (k,v)::nh r n
def lu (n:Nat):List (Nat×AV)->Bool
 | []=>true
 | (_,v)::r=>v.bD n&&lu n r
def get (t:T) (n:Nat):AV:=eY t.l n
def put (t:T) (n:Nat) (x:AV):T:=if n < t.sz then ⟨t.sz,sJ t.l n x⟩ else t
def fI:List Nat->T->T
 | [],t=>t
 | d::ds,t=>fI ds ⟨t.sz,nh t.l d⟩
def aR (n:Nat) (t:T):Bool:=lu n t.l
def kq:List AV->Nat->List (Nat×AV)
 | [],_=>[]
 | x::xs,i=>(i,x)::kq xs (i+1)
theorem Q2 (n m:Nat):Nat.beq n m=decide (n=m):=by
 cases h:Nat.beq n m with
 | true=>simp [za3 h]
 | false=>have:=Nat.ne_of_beq_eq_false h;simp [this]
theorem tH:∀ (t:List (Nat×AV)) (i j:Nat) (x:AV),eY (sJ t i x) j=if j=i then x else eY t j
 | [],i,j,x=>by
  simp only [sJ,eY];by_cases h:i=j
  ·simp [h]
  ·have h':¬ j=i:=fun e=>h e.symm
   simp [h,h']
 | (k,v)::r,i,j,x=>by
  simp only [sJ];by_cases hk:k=i
  ·subst hk;simp only [if_true,eY];by_cases h:k=j
   ·simp [h]
   ·have h':¬ j=k:=fun e=>h e.symm
    simp [h,h']
  ·by_cases hlt:i < k
   ·simp only [hk,hlt,if_false,if_true,eY];by_cases h:i=j
    ·simp [h]
    ·have h':¬ j=i:=fun e=>h e.symm
     simp [h,h']
   ·simp only [hk,hlt,if_false,eY,tH r];by_cases h:k=j
    ·subst h;simp [hk]
    ·simp [h]
theorem oF:∀ (t:List (Nat×AV)) (i j:Nat),eY (nh t i) j=if j=i then .any else eY t j
 | [],i,j=>by simp [nh,eY]
 | (k,v)::r,i,j=>by
  simp only [nh];by_cases hk:k=i
  ·subst hk;simp only [if_true,oF r,eY];by_cases h:k=j
   ·simp [h]
   ·have h':¬ j=k:=fun e=>h e.symm
    simp [h,h']
  ·simp only [hk,if_false,eY,oF r];by_cases h:k=j
   ·subst h;simp [hk]
   ·simp [h]
theorem tS:∀ (xs:List AV) (i j:Nat),eY (kq xs i) j=if i<=j then xs.getD (j - i) .any else .any
 | [],i,j=>by simp [kq,eY]
 | x::xs,i,j=>by
  simp only [kq,eY,tS xs];by_cases h:i=j
  ·subst h;simp
  ·simp only [h,if_false];by_cases h2:i<=j
   ·have e:j - i=(j - (i+1))+1:=by omega
    rw [if_pos (by omega),if_pos h2,e];rfl
   ·rw [if_neg (by omega),if_neg h2]
def keys (t:List (Nat×AV)):List Nat:=t.map (·.1)
abbrev KD (l:List Nat):Prop:=l.Pairwise (· < ·)
theorem rW:∀ (t:List (Nat×AV)),KD (keys t)->∀ k v,(k,v)∈t->eY t k=v
 | [],_,k,v,h=>by simp at h
 | (i,u)::r,hn,k,v,h=>by
  simp only [keys,za5,zaJ] at hn;simp only [eY];rcases zad.1 h with h | h
  ·injection h with h1 h2;subst h1;subst h2;simp
  ·have:i≠k:=by rintro rfl;exact zc0 _ (hn.1 _ (zaT.2 ⟨_,h,rfl⟩))
   simp only [this,if_false];exact rW r hn.2 k v h
theorem Ko (n:Nat) (t:List (Nat×AV)) (hn:KD (keys t)):lu n t=true↔∀ i,(eY t i).bD n=true:=by
 constructor
 ·intro h;clear hn;induction t with
  | nil=>intro i;simp [eY,AV.bD]
  | cons x r ih=>
   obtain ⟨k,v⟩:=x;simp only [lu,za0] at h;intro i;simp only [eY];by_cases hk:k=i
   ·simp [hk,h.1]
   ·simp [hk,ih h.2 i]
 ·intro h;have:∀ s:List (Nat×AV),(∀ k v,(k,v)∈s->v.bD n=true)->lu n s=true:=by
   intro s;induction s with
   | nil=>intro _;rfl
   | cons x r ih=>
    intro hs;obtain ⟨k,v⟩:=x;simp only [lu,za0];exact ⟨hs k v (by simp),ih fun k' v' hm=>hs k' v' (by simp [hm])⟩
  refine this t fun k v hm=>?_
  rw [<-rW t hn k v hm];exact h k
theorem Aw:∀ (t:List (Nat×AV)) (n:Nat) (x:AV),(∀ k∈keys (sJ t n x),k=n\/k∈keys t)/\(KD (keys t)->KD (keys (sJ t n x)))
 | [],n,x=>by simp [sJ,keys,KD]
 | (k,v)::r,n,x=>by
  obtain ⟨h1,h2⟩:=Aw r n x;simp only [sJ];by_cases hk:k=n
  ·subst hk;simp [keys]
  ·by_cases hlt:n < k
   ·simp only [hk,hlt,if_false,if_true];refine ⟨fun j hj=>by simpa [keys] using hj,fun hn=>?_⟩;simp only [keys,za5,KD,zaJ,zad,forall_eq_or_imp] at hn ⊢;exact ⟨⟨hlt,fun j hj=>Nat.lt_trans hlt (hn.1 j hj)⟩,hn⟩
   ·simp only [hk,hlt,if_false];constructor
    ·intro j hj;simp only [keys,za5,zad] at hj ⊢;rcases hj with hj | hj
     ·exact .inr (.inl hj)
     ·rcases h1 j hj with e | e
      ·exact .inl e
      ·exact .inr (.inr e)
    ·intro hn;simp only [keys,za5,KD,zaJ] at hn ⊢;refine ⟨fun j hm=>?_,h2 hn.2⟩;rcases h1 j hm with e | e
     ·omega
     ·exact hn.1 j e
theorem tT:∀ (t:List (Nat×AV)) (n:Nat),(keys (nh t n)).Sublist (keys t)
 | [],n=>by simp [nh,keys]
 | (k,v)::r,n=>by
  simp only [nh];by_cases h:k=n
  ·simp only [h,if_true];exact (tT r n).trans (List.sublist_cons_self _ _)
  ·simp only [h,if_false];exact (tT r n).cons_cons _
theorem tU:∀ (xs:List AV) (i:Nat),KD (keys (kq xs i))/\∀ k∈keys (kq xs i),i<=k
 | [],i=>by simp [kq,keys,KD]
 | x::xs,i=>by
  obtain ⟨h1,h2⟩:=tU xs (i+1);simp only [kq,keys,za5,KD,zaJ,zad,forall_eq_or_imp];refine ⟨⟨fun k hm=>?_,h1⟩,za7 _,fun k hk=>?_⟩
  ·have:=h2 k hm;omega
  ·have:=h2 k hk;omega
end T
def Rel (τ:T) (l:List AV):Prop:=(∀ n,τ.get n=l.getD n .any)/\τ.sz=l.length/\T.KD (T.keys τ.l)
theorem Rel.put {τ:T} {l:List AV} (h:Rel τ l) (d:Nat) (v:AV):Rel (τ.put d v) (l.set d v):=by
 unfold T.put;rw [h.2.1];by_cases hl:d < l.length
 ·simp only [hl,if_true];refine ⟨fun n=>?_,by simp,(T.Aw _ _ _).2 h.2.2⟩;simp only [T.get,T.tH];by_cases hn:n=d
  ·subst hn;simp [List.getD,hl]
  ·rw [if_neg hn];have:=h.1 n;simp only [T.get] at this;rw [this];simp only [List.getD];rw [za6 (fun e=>hn e.symm)]
 ·simp only [hl,if_false];have:l.set d v=l:=List.set_eq_of_length_le (by omega);rw [this];exact h
theorem Rel.del {τ:T} {l:List AV} (h:Rel τ l) (d:Nat):Rel ⟨τ.sz,T.nh τ.l d⟩ (l.set d .any):=by
 refine ⟨fun n=>?_,by simp [h.2.1],h.2.2.sublist (T.tT _ _)⟩;simp only [T.get,T.oF];by_cases hn:n=d
 ·subst hn;by_cases hl:n < l.length
  ·simp [List.getD,hl]
  ·simp [List.getD,hl]
 ·rw [if_neg hn];have:=h.1 n;simp only [T.get] at this;rw [this];simp only [List.getD];rw [za6 (fun e=>hn e.symm)]
theorem Rel.fI {l:List AV}:∀ (ds:List Nat) {τ:T} {l:List AV},Rel τ l->Rel (T.fI ds τ) (Am.fI ds l)
 | [],_,_,h=>h
 | d::ds,_,_,h=>Rel.fI (l:=l) ds (h.del d)
theorem Rel.aR {τ:T} {l:List AV} (h:Rel τ l) (n:Nat):T.aR n τ=AV.aR n l:=by
 have:(T.aR n τ=true)↔(AV.aR n l=true):=by
  rw [T.aR,T.Ko n _ h.2.2,zM];have e:∀ i,T.eY τ.l i=l.getD i .any:=h.1;simp only [e]
 cases h1:T.aR n τ<;>cases h2:AV.aR n l<;>simp [h1,h2] at this ⊢
def T.toL (τ:T):List AV:=(List.range τ.sz).map τ.get
def T.Tv (l:List AV):T:=⟨l.length,T.kq l 0⟩
theorem Rel.toL {τ:T} {l:List AV} (h:Rel τ l):τ.toL=l:=by
 apply zb4
 ·simp [T.toL,h.2.1]
 ·intro i h1 h2;simp only [T.toL,zay,zbi,h.1];simp [List.getD,h2]
theorem Rel.Tv (l:List AV):Rel (T.Tv l) l:=by
 refine ⟨fun n=>?_,rfl,(T.tU _ _).1⟩;simp only [T.Tv,T.get,T.tS,zaO,if_true,Nat.sub_zero]
def ga (G:Nat->List AV) (τ:T):RX->AV
 | .t n=>τ.get n
 | .c v=>v
 | .g g=> .bR (G g)
theorem Rel.ev {τ:T} {l:List AV} (h:Rel τ l) (G:Nat->List AV):ga G τ=RX.ev G l:=by
 funext r
 cases r with
 | t n=>exact h.1 n
 | _=>rfl
def cS (t:T) (d:Option Nat) (v:AV):T:=match d with | some d=>t.put d v | none=>t
def dh (t:T):Option (Nat×Bool)->Option Bool
 | none=>some true
 | some (s,b)=>match t.get s with
  | .bool c=>some (c==b)
  | .aY []=>some false
  | _=>none
theorem Rel.want {τ:T} {l:List AV} (h:Rel τ l) (g:Option (Nat×Bool)):dh τ g=want l g:=by
 cases g with
 | none=>rfl
 | some g=>obtain ⟨s,b⟩:=g;simp only [dh,Am.want,h.1];rfl
theorem Rel.cS {τ:T} {l:List AV} (h:Rel τ l) (d:Option Nat) (v:AV):Rel (cS τ d v) (cR l d v):=by
 cases d with
 | none=>exact h
 | some d=>exact h.put d v
def aZ (G:Nat->List AV) (hp:Nat->Bool) (cI:CI) (cH:CH):List bH->T->List Obj->Option (T×List Obj)
 | [],t,H=>some (t,H)
 | o::os,t,H=>
  match dh t o.guard with
  | some true=>(match bW (ga G t) hp cI cH H.length o.op H with
   | some (v,H')=>KL v fun v=>aZ G hp cI cH os (cS t o.dst v) H'
   | none=>none)
  | some false=>aZ G hp cI cH os (cS t o.dst (.aY [])) H
  | none=>none
theorem iG (G:Nat->List AV) (hp:Nat->Bool) {cI KY:CI} {cH Tw:CH} (h1:KY.le cI) (h2:Tw.le cH):∀ (os:List bH) {τ τ':T} {l:List AV} {H H':List Obj},Rel τ l->
 aZ G hp KY Tw os τ H=some (τ',H')->∃ l',bP G hp cI cH os l H=some (l',H')/\Rel τ' l'
 | [],τ,τ',l,H,H',hr,h=>by
  simp only [aZ,za2,za4] at h;obtain ⟨rfl,rfl⟩:=h;exact ⟨l,rfl,hr⟩
 | o::os,τ,τ',l,H,H',hr,h=>by
  rw [aZ,hr.want,hr.ev] at h;rw [bP];split at h
  ·rename_i hw;rw [hw];split at h
   case h_2=>simp at h
   rename_i v H1 he;rw [dU] at h;rw [rN,fU h1 h2 he];exact iG G hp h1 h2 os (hr.cS o.dst v) h
  ·rename_i hw;rw [hw];exact iG G hp h1 h2 os (hr.cS o.dst _) h
  ·simp at h
def lB (G:Nat->List AV) (hp:Nat->Bool) (cI:CI) (cH:CH) (o:bH) (t:T) (H:List Obj):Option (AV×List Obj):=
 match dh t o.guard with
 | some true=>bW (ga G t) hp cI cH H.length o.op H
 | some false=>some (.aY [],H)
 | none=>none
theorem E5 (G:Nat->List AV) (hp:Nat->Bool) {cI KY:CI} {cH Tw:CH} (h1:KY.le cI) (h2:Tw.le cH) {o:bH} {τ:T} {l:List AV} {H:List Obj} {r} (hr:Rel τ l)
 (h:lB G hp KY Tw o τ H=some r):iV G hp cI cH o l H=some r:=by
 unfold lB at h;unfold iV;rw [hr.want,hr.ev] at h;split at h
 ·rename_i hw;rw [hw];dsimp only;rw [rN];exact fU h1 h2 h
 ·rename_i hw;rw [hw];exact h
 ·simp at h
def JA (G:Nat->List AV) (o:bH) (t:T):List Obj->Option AV:=fun A=>match dh t o.guard with
 | some true=>dS (ga G t) A o.op
 | some false=>some (.aY [])
 | none=>none
theorem Xx (G:Nat->List AV) {o:bH} {τ:T} {l:List AV} (hr:Rel τ l):JA G o τ=ni G o l:=by
 funext A
 unfold JA ni;rw [hr.want,hr.ev];split<;>simp only [Ie, *]
def g9 (G:Nat->List AV) (hp:Nat->Bool) (cI:CI) (cH:CH) (bf:List Nat):List bH->Nat->List (Nat×(List Obj->Option AV)×AV)->List (Nat×List Obj×List Obj)->T->List Obj->Option (T×List Obj)
 | [],_,_,_,t,H=>some (t,H)
 | o::os,i,rs,hs,t,H=>
  match lB G hp cI cH o t H with
  | none=>none
  | some (v,H')=>KL v fun v=>match o.op.kind with
   | .pure=>g9 G hp cI cH bf os (i+1) rs hs (cS t o.dst v) H'
   | .read=>if (hs.all fun h=>bit bf i h.1||(jx (JA G o t) v h.2.1&&jx (JA G o t) v h.2.2))=true then
    g9 G hp cI cH bf os (i+1) ((i,JA G o t,v)::rs) hs (cS t o.dst v) H' else none
   | _=>if (rs.all fun r=>bit bf i r.1||(jx r.2.1 r.2.2 H&&jx r.2.1 r.2.2 H'))=true then
    g9 G hp cI cH bf os (i+1) rs ((i,H,H')::hs) (cS t o.dst v) H' else none
theorem n9 (G:Nat->List AV) (hp:Nat->Bool) {cI KY:CI} {cH Tw:CH} (h1:KY.le cI) (h2:Tw.le cH) (bf:List Nat):∀ (os:List bH) {i:Nat} {rs:List (Nat×(List Obj->Option AV)×AV)} {hs:List (Nat×List Obj×List Obj)} {τ τ':T} {l:List AV} {H H':List Obj},Rel τ l->
 g9 G hp KY Tw bf os i rs hs τ H=some (τ',H')->∃ l',vQ G hp cI cH bf os i rs hs l H=some (l',H')/\Rel τ' l'
 | [],i,rs,hs,τ,τ',l,H,H',hr,h=>by
  simp only [g9,za2,za4] at h;obtain ⟨rfl,rfl⟩:=h;exact ⟨l,rfl,hr⟩
 | o::os,i,rs,hs,τ,τ',l,H,H',hr,h=>by
  rw [g9] at h;rw [vQ];split at h
  ·simp at h
  rename_i v H1 ha;rw [dU] at h;rw [E5 G hp h1 h2 hr ha];dsimp only;rw [Xx G hr] at h
  cases hk:o.op.kind<;>rw [hk] at h<;>dsimp only at h ⊢
  ·exact n9 G hp h1 h2 bf os (hr.cS o.dst v) h
  all_goals
   split at h
   case isFalse=>simp at h
   rename_i hc;rw [if_pos hc];exact n9 G hp h1 h2 bf os (hr.cS o.dst v) h
def nE (G:Nat->List AV) (cI:CI) (pl:Nat) (o:bH) (t:T) (H:List Obj):Option (AV×List Obj×FP):=
 match dh t o.guard with
 | some true=>if sI H pl o.op=true then
  (match fF (ga G t) cI pl o.op H with
   | some (v,H')=>some (v,H',mU (ga G t) pl o.op)
   | none=>none) else none
 | some false=>some (.aY [],H,{})
 | none=>none
def gD (G:Nat->List AV) (cI:CI) (b:Nat):List (Nat×bH)->T->List Obj->Option (T×List Obj×List FP)
 | [],t,H=>some (t,H,[])
 | (k,o)::os,t,H=>
  match nE G cI (b+k) o t H with
  | some (v,H',f)=>KL v fun v=>(match gD G cI b os (cS t o.dst v) H' with
   | some (t',YF,fs)=>some (t',YF,f::fs)
   | none=>none)
  | none=>none
theorem uD (G:Nat->List AV) {cI KY:CI} (h1:KY.le cI) {b:Nat}:∀ (os:List (Nat×bH)) {τ τ':T} {l:List AV} {H H':List Obj} {fs:List FP},Rel τ l->
 gD G KY b os τ H=some (τ',H',fs)->∃ l',gA G cI b os l H=some (l',H',fs)/\Rel τ' l'
 | [],τ,τ',l,H,H',fs,hr,h=>by
  simp only [gD,za2,za4] at h;obtain ⟨rfl,rfl,rfl⟩:=h;exact ⟨l,rfl,hr⟩
 | (k,o)::os,τ,τ',l,H,H',fs,hr,h=>by
  rw [gD] at h;rw [gA];split at h
  case h_2=>simp at h
  rename_i v H1 f ha;rw [dU] at h;split at h
  case h_2=>simp at h
  rename_i t1 H2 fs1 hrun;simp only [za2,za4] at h;obtain ⟨rfl,rfl,rfl⟩:=h;have Uy:qN G cI (b+k) o l H=some (v,H1,f):=by
   unfold nE at ha;rw [hr.want,hr.ev] at ha;unfold qN;split at ha
   ·rename_i hw;rw [hw];split at ha
    case isFalse=>simp at ha
    rename_i hp;split at ha
    case h_2=>simp at ha
    rename_i u H3 he;dsimp only;rw [if_pos hp,Rs,zN (b:=cI) h1 he,V6];exact ha
   ·rename_i hw;rw [hw];exact ha
   ·simp at ha
  obtain ⟨l',e1,e2⟩:=uD G h1 os (hr.cS o.dst v) hrun;exact ⟨l',by rw [Uy];dsimp only;rw [e1],e2⟩
structure ST where
 tmps:T
 H:List Obj
def pM (t:Nat) (s:ST):Option ST:=
 match s.tmps.get t with
 | .own id ext off len=>
  (match aC s.H id with
   | some (_,es)=>if ext=es.length/\AV.bO 0 ((es.drop off).take len)=true/\(cy s.H id).free=true then
    some ⟨s.tmps.put t (sF (cy s.H id) es ((es.drop off).take len)),s.H.set id .dead⟩ else none
   | none=>none)
 | _=>some s
def lz (t:Nat) (s:ST):Option ST:=
 match s.tmps.get t with
 | .aJ id 1 0 0=>(match s.H[id]? with
  | some (.live .norm _ [cs])=>if AV.aR 0 cs=true then some ⟨s.tmps.put t (.bR cs),s.H.set id .dead⟩ else none
  | _=>none)
 | _=>none
def vO:List Nat->ST->ST
 | [],s=>s
 | t::ts,s=>vO ts ⟨s.tmps.put t (s.tmps.get t).wk,P6 s.H (s.tmps.get t)⟩
def aD (base:Nat) (s:ST):GA->Option ST
 | .sh t=>(match s.tmps.get t with
  | .own id _ _ _=>(match aC s.H id with | some (_,_::_)=>some ⟨s.tmps,mark Fl.sh s.H id⟩ | _=>some s)
  | _=>some s)
 | .res t=>(match s.tmps.get t with
  | .own id _ _ _=>if vZ (s.H.drop (id+1))=true then some ⟨s.tmps,mark Fl.res s.H id⟩ else some s
  | _=>some s)
 | .wk l=>some (vO l s)
 | .kill l=>some ⟨T.fI l s.tmps,s.H⟩
 | .ku n=>if Nat.blt (base+n) s.H.length&&(T.aR (base+n) s.tmps&&bT (base+n) (s.H.take (base+n))) then some ⟨s.tmps,s.H.take (base+n)⟩ else some s
 | .uc t=>(match pM t s with | some s'=>some s' | none=>some s)
 | .nq t=>(match lz t s with | some s'=>some s' | none=>some s)
 | .prom t sz=>(match s.tmps.get t with
  | .bF=>some ⟨s.tmps.put t (.own s.H.length 0 0 0),s.H++[.live .nil sz []]⟩
  | _=>some s)
 | .pz t off sz=>(match s.tmps.get t with
  | .aJ id ext e o=>(match loadAt s.H 1 false (.aJ id ext e (o+off)) with
   | some .bF=>(match storeAt (s.H++[.live .nil sz []]) 1 (.aJ id ext e (o+off)) (.own s.H.length 0 0 0) with
    | some H'=>some ⟨s.tmps,H'⟩
    | none=>none)
   | _=>some s)
  | _=>some s)
 | .yX t off=>(match s.tmps.get t with
  | .aJ id ext e o=>(match loadAt s.H 1 false (.aJ id ext e (o+off)) with
   | some (.own j ext' off' len')=>if j=id then none else (match ko 0 ⟨[.own j ext' off' len'],s.H⟩ with
    | some ⟨[r],H1⟩=>(match storeAt H1 1 (.aJ id ext e (o+off)) r with
     | some H'=>some ⟨s.tmps,H'⟩
     | none=>none)
    | _=>some s)
   | _=>some s)
  | _=>some s)
 | .cut t=>(match s.tmps.get t with
  | .own id ext 0 len=>(match s.H[id]? with
   | some (.live .norm sz es)=>if (Nat.ble base id&&Nat.beq (id+1) s.H.length)&&(Nat.beq ext es.length&&Nat.ble len ext)&&(T.aR id (s.tmps.put t .any)&&bT id (s.H.take id))&&AV.bO id es then
    some ⟨s.tmps.put t (.own id len 0 len),s.H.set id (.live .norm sz (es.take len))⟩ else none
   | _=>none)
  | _=>none)
def cF (base:Nat):List GA->ST->Option ST
 | [],s=>some s
 | g::gs,s=>match aD base s g with | some s'=>cF base gs s' | none=>none
def vV (σ:ST) (s:St):Prop:=Rel σ.tmps s.tmps/\σ.H=s.H
theorem Eo:∀ (ts:List Nat) {σ:ST} {s:St},vV σ s->vV (vO ts σ) (Yy ts s)
 | [],_,_,h=>h
 | t::ts,σ,s,h=>by
  simp only [vO,Yy];refine Eo ts ⟨?_,?_⟩
  ·simp only [h.1.1];exact h.1.put _ _
  ·simp only [h.1.1,h.2]
theorem zg {base:Nat} {σ σ':ST} {s:St} (hr:vV σ s) {g:GA} (h:aD base σ g=some σ'):∃ s',dm base s g=some s'/\vV σ' s':=by
 by_cases hwk:∃ l,g= .wk l
 ·obtain ⟨l,rfl⟩:=hwk;simp only [aD,za2] at h;subst h;exact ⟨_,rfl,Eo l hr⟩
 obtain ⟨t,H⟩:=σ;obtain ⟨l,H2⟩:=s;obtain ⟨hr,hH⟩:=hr;simp only at hr hH;subst hH
 cases g with
 | sh i=>
  simp only [aD,hr.1] at h;simp only [dm];split at h
  ·rename_i hs;simp only [hs];split at h
   ·rename_i hl;simp only [hl];injection h with h;subst h;exact ⟨_,rfl,hr,rfl⟩
   ·rename_i hne;injection h with h;subst h
    refine ⟨⟨l,H⟩,?_,hr,rfl⟩;split
    ·rename_i a b c hl;exact (hne a b c hl).elim
    ·rfl
  ·rename_i hne;injection h with h;subst h
   refine ⟨⟨l,H⟩,?_,hr,rfl⟩;split
   ·rename_i id ext off len hs;exact (hne id ext off len hs).elim
   ·rfl
 | res i=>
  simp only [aD,hr.1] at h;simp only [dm];split at h
  ·rename_i hs;simp only [hs];split at h
   ·rename_i hl;rw [if_pos hl];injection h with h;subst h;exact ⟨_,rfl,hr,rfl⟩
   ·rename_i hl;rw [if_neg hl];injection h with h;subst h;exact ⟨_,rfl,hr,rfl⟩
  ·rename_i hne;injection h with h;subst h
   refine ⟨⟨l,H⟩,?_,hr,rfl⟩;split
   ·rename_i id ext off len hs;exact (hne id ext off len hs).elim
   ·rfl
 | wk l=>exact (hwk ⟨l,rfl⟩).elim
 | kill ds=>
  simp only [aD,za2] at h;subst h;exact ⟨_,rfl,Rel.fI (l:=l) ds hr,rfl⟩
 | ku n=>
  simp only [aD,hr.aR] at h;simp only [dm];split at h
  ·rename_i hc;rw [if_pos hc];injection h with h;subst h;exact ⟨_,rfl,hr,rfl⟩
  ·rename_i hc;rw [if_neg hc];injection h with h;subst h;exact ⟨_,rfl,hr,rfl⟩
 | uc i=>
  have key:∀ σ1,pM i ⟨t,H⟩=some σ1->∃ s',ko i ⟨l,H⟩=some s'/\vV σ1 s':=by
   intro σ1 h;simp only [pM,hr.1] at h;simp only [ko];split at h
   ·rename_i hs;simp only [hs];split at h
    case h_2=>simp at h
    rename_i hl;rw [hl];dsimp only;split at h
    case isFalse=>simp at h
    rename_i hc;rw [if_pos hc];injection h with h;subst h
    exact ⟨_,rfl,hr.put _ _,rfl⟩
   ·rename_i hne;injection h with h;subst h
    refine ⟨⟨l,H⟩,?_,hr,rfl⟩;split
    ·rename_i id ext off len hs;exact (hne id ext off len hs).elim
    ·rfl
  have VP:pM i ⟨t,H⟩=none->ko i ⟨l,H⟩=none:=by
   intro h;simp only [pM,hr.1] at h;simp only [ko];split at h
   ·rename_i hs;simp only [hs];split at h
    ·rename_i hl;rw [hl];dsimp only;split at h
     ·simp at h
     ·rename_i hc;rw [if_neg hc]
    ·rename_i hl;rw [hl]
   ·simp at h
  simp only [aD] at h;simp only [dm];split at h
  ·rename_i σ1 h1;injection h with h;subst h
   obtain ⟨s',e1,e2⟩:=key _ h1;exact ⟨s',by rw [e1],e2⟩
  ·rename_i h1;injection h with h;subst h
   exact ⟨⟨l,H⟩,by rw [VP h1],hr,rfl⟩
 | nq i=>
  have key:∀ σ1,lz i ⟨t,H⟩=some σ1->∃ s',uk i ⟨l,H⟩=some s'/\vV σ1 s':=by
   intro σ1 h;simp only [lz,hr.1] at h;simp only [uk];split at h
   case h_2=>simp at h
   rename_i hs;simp only [hs];split at h
   case h_2=>simp at h
   rename_i hl;rw [hl];dsimp only;split at h
   case isFalse=>simp at h
   rename_i hc;rw [if_pos hc];injection h with h;subst h
   exact ⟨_,rfl,hr.put _ _,rfl⟩
  have VP:lz i ⟨t,H⟩=none->uk i ⟨l,H⟩=none:=by
   intro h
   cases h2:uk i ⟨l,H⟩ with
   | none=>rfl
   | some s2=>
    exfalso;simp only [uk] at h2;simp only [lz,hr.1] at h;split at h2
    case h_2=>simp at h2
    rename_i hs;simp only [hs] at h;split at h2
    case h_2=>simp at h2
    rename_i hl;rw [hl] at h;dsimp only at h;split at h2
    case isFalse=>simp at h2
    rename_i hc;rw [if_pos hc] at h;simp at h
  simp only [aD] at h;simp only [dm];split at h
  ·rename_i σ1 h1;injection h with h;subst h
   obtain ⟨s',e1,e2⟩:=key _ h1;exact ⟨s',by rw [e1],e2⟩
  ·rename_i h1;injection h with h;subst h
   exact ⟨⟨l,H⟩,by rw [VP h1],hr,rfl⟩
 | prom i sz=>
  simp only [aD,hr.1] at h;simp only [dm];split at h
  case h_2=>
   rename_i hne;injection h with h;subst h
   refine ⟨⟨l,H⟩,?_,hr,rfl⟩;split
   ·rename_i hs;exact (hne hs).elim
   ·rfl
  rename_i hs;simp only [hs];injection h with h;subst h
  exact ⟨_,rfl,hr.put _ _,rfl⟩
 | pz i off sz=>
  simp only [aD,hr.1] at h;simp only [dm];split at h
  case h_2=>
   rename_i hne;injection h with h;subst h
   refine ⟨⟨l,H⟩,?_,hr,rfl⟩;split
   ·rename_i id ext e o hs;exact (hne id ext e o hs).elim
   ·rfl
  rename_i id ext e o hs;simp only [hs];split at h
  case h_2=>
   rename_i hne;injection h with h;subst h
   refine ⟨⟨l,H⟩,?_,hr,rfl⟩;split
   ·rename_i hl;exact (hne hl).elim
   ·rfl
  rename_i hl;simp only [hl];split at h
  case h_2=>simp at h
  rename_i H' hst;simp only [hst];injection h with h;subst h
  exact ⟨_,rfl,hr,rfl⟩
 | yX i off=>
  simp only [aD,hr.1] at h;simp only [dm];split at h
  case h_2=>
   rename_i hne;injection h with h;subst h
   refine ⟨⟨l,H⟩,?_,hr,rfl⟩;split
   ·rename_i id ext e o hs;exact (hne id ext e o hs).elim
   ·rfl
  rename_i id ext e o hs;simp only [hs];split at h
  case h_2=>
   rename_i hne;injection h with h;subst h
   refine ⟨⟨l,H⟩,?_,hr,rfl⟩;split
   ·rename_i j a b c hs;exact (hne j a b c hs).elim
   ·rfl
  rename_i j ext' off' len' hl;simp only [hl];split at h
  ·simp at h
  rename_i hji;rw [if_neg hji];split at h
  case h_2=>
   rename_i hne;injection h with h;subst h
   refine ⟨⟨l,H⟩,?_,hr,rfl⟩;split
   ·rename_i r H1 hs;exact (hne r H1 hs).elim
   ·rfl
  rename_i r H1 hz;simp only [hz];split at h
  case h_2=>simp at h
  rename_i H' hst;simp only [hst];injection h with h;subst h
  exact ⟨_,rfl,hr,rfl⟩
 | cut i=>
  simp only [aD,hr.1] at h;simp only [dm];split at h
  case h_2=>simp at h
  rename_i id ext len hs;simp only [hs];split at h
  case h_2=>simp at h
  rename_i sz es hl;simp only [hl];rw [(hr.put i .any).aR id] at h;split at h
  case isFalse=>simp at h
  rename_i hc;rw [if_pos hc];injection h with h;subst h
  exact ⟨_,rfl,hr.put _ _,rfl⟩
theorem kX {base:Nat}:∀ (gs:List GA) {σ σ':ST} {s:St},vV σ s->cF base gs σ=some σ'->∃ s',iX base gs s=some s'/\vV σ' s'
 | [],σ,σ',s,hr,h=>by simp only [cF,za2] at h;subst h;exact ⟨s,rfl,hr⟩
 | g::gs,σ,σ',s,hr,h=>by
  rw [cF] at h;split at h
  case h_2=>simp at h
  rename_i σ1 h1;obtain ⟨s1,e1,e2⟩:=zg hr h1;obtain ⟨s2,e3,e4⟩:=kX gs e2 h;exact ⟨s2,by rw [iX,e1];exact e3,e4⟩
def bQ (rs:List (Sum Nat (Nat×Nat×Bool))) (s:ST):Option (List AV):=
 match rs with
 | []=>some []
 | .inl t::r=>(match bQ r s with | some l=>some (s.tmps.get t::l) | none=>none)
 | .inr (t,n,ag)::r=>(match loadAt s.H n ag (s.tmps.get t),bQ r s with | some v,some l=>some (v::l) | _,_=>none)
theorem eu {σ:ST} {s:St} (hr:vV σ s):∀ rs,bQ rs σ=cL rs s
 | []=>rfl
 | .inl t::r=>by simp only [bQ,cL,eu hr r,hr.1.1];rfl
 | .inr (t,n,ag)::r=>by simp only [bQ,cL,eu hr r,hr.1.1,hr.2];rfl
abbrev qF:=RC->Nat->ST->Option (Ex×ST)
def eZ (rf:RF) (args:List AV):T:=⟨rf.ntmps,T.kq args 0⟩
def FM (ex:qF) (rf:RF) (args:List AV):Option AV:=match args with
 | .aJ 0 0 0 0::as=>if as.length=rf.nargs/\rf.nargs<=rf.ntmps then
  (match ex rf.body 0 ⟨eZ rf as,[]⟩ with
   | some (.exit _,_)=>none
   | some (_,s')=>(match bQ rf.results s' with
    | some [v]=>qU s'.H v
    | _=>none)
   | none=>none)
  else none
 | _=>none
def kh (fns:Nat->Option RF) (ex:qF):CI:=fun f args=>match fns f with
 | some rf=>if args.length=rf.nargs/\rf.nargs<=rf.ntmps then
  (match ex rf.body 0 ⟨eZ rf args,[]⟩ with
   | some (.exit _,_)=>none
   | some (_,s')=>(match bQ rf.results s' with | some l=>pack s'.H (oneOf l) | none=>none)
   | none=>none)
  else FM ex rf args
 | none=>none
def qY:List Nat->List AV->T->T
 | p::ps,x::xs,t=>qY ps xs (t.put p x)
 | _,_,t=>t
theorem Ax:∀ (ps:List Nat) (xs:List AV) {τ:T} {l:List AV},Rel τ l->Rel (qY ps xs τ) (uS ps xs l)
 | p::ps,x::xs,_,_,h=>by rw [qY,uS];exact Ax ps xs (h.put p x)
 | [],_,_,_,h=>by rw [qY,uS]<;>simp_all
 | _::_,[],_,_,h=>by rw [qY,uS]<;>simp_all
def vT (ex:qF) (args:List AV) (H:List Obj):Option (AV×List Obj):=match args with
 | .fA l::xs=>(match H[l]? with
  | some (.lp .ready t ps b6 body)=>if xs.length=ps.length then
   (match ex b6 H.length ⟨qY ps xs (T.Tv t),H⟩ with
    | some (.normal,s1)=>(match jI .ready .busy s1.H l with
     | some H1=>(match ex body H.length ⟨s1.tmps,H1⟩ with
      | some (.normal,s2)=>(match jI .busy .ready s2.H l with | some H2=>some (.bool true,H2) | none=>none)
      | some (e,s2)=>(match jI .busy (.done e) s2.H l with | some H2=>some (.bool false,H2) | none=>none)
      | none=>none)
     | none=>none)
    | _=>none) else none
  | _=>none)
 | _=>none
def kg (fns:Nat->Option RF) (ex:qF):CH:=fun f args H=>match f with
 | none=>vT ex args H
 | some f=>match fns f with
 | some rf=>if args.length=rf.nargs/\rf.nargs<=rf.ntmps then
  (match ex rf.body H.length ⟨eZ rf args,H⟩ with
   | some (.exit _,_)=>none
   | some (_,s')=>(match bQ rf.results s' with | some l=>some (oneOf l,s'.H) | none=>none)
   | none=>none)
  else bif Nat.beq args.length rf.nargs then none else JL rf args H
 | none=>none
def ak (E:Env) (hp:Nat->Bool):Nat->qF
 | 0,_,_,_=>none
 | n+1,c,base,s=>
  match c with
  | .bad=>none
  | .skip=>some (.normal,s)
  | .ret=>some (.ret,s)
  | .exit id=>some (.exit id,s)
  | .seq a b=>(match ak E hp n a base s with
   | some (.normal,s')=>ak E hp n b base s'
   | r=>r)
  | .cond x a b=>(match ga E.aF s.tmps x with
   | .bool true=>ak E hp n a base s
   | .bool false=>ak E hp n b base s
   | _=>none)
  | .block id b=>(match ak E hp n b base s with
   | some (.exit i,s')=>if i=id then some (.normal,s') else some (.exit i,s')
   | r=>r)
  | .loop b=>(match ak E hp n b base s with
   | some (.normal,s')=>ak E hp n (.loop b) base s'
   | r=>r)
  | .u5 ops=>(match aZ E.aF hp (kh E.fns (ak E hp n)) (kg E.fns (ak E hp n)) ops s.tmps s.H with
   | some (t,H)=>some (.normal,⟨t,H⟩)
   | none=>none)
  | .draw ops=>(match aZ E.aF (fun _=>false) (kh E.fns (ak E hp n)) (fun _ _ _=>none) ops s.tmps s.H with
   | some (t,H)=>some (.normal,⟨t,H⟩)
   | none=>none)
  | .jG ops bf=>(match g9 E.aF hp (kh E.fns (ak E hp n)) (kg E.fns (ak E hp n)) bf ops 0 [] [] s.tmps s.H with
   | some (t,H)=>some (.normal,⟨t,H⟩)
   | none=>none)
  | .kB ops k ps=>(match gD E.aF (kh E.fns (ak E hp n)) s.H.length ops s.tmps (s.H++List.replicate k .ew) with
   | some (t,H,fs)=>if gm fs ps=true then some (.normal,⟨t,H⟩) else none
   | none=>none)
  | .gh pre r post=>(match cF base pre s with
   | some s0=>(match ak E hp n r base s0 with
    | some (.normal,s')=>(match cF base post s' with | some s''=>some (.normal,s'') | none=>none)
    | r=>r)
   | none=>none)
  | .AT g ps b6 body=>(match ga E.aF s.tmps g with
   | .fn f cap=>(match kg E.fns (ak E hp n) (some f) (.fA s.H.length::cap) (s.H++[.lp .ready s.tmps.toL ps b6 body]) with
    | some (_,H')=>(match lg H' s.H.length with
     | some e=>some (e,⟨s.tmps,H'.set s.H.length .dead⟩)
     | none=>none)
    | none=>none)
   | _=>none)
theorem tV {rf:RF} {args:List AV} (h1:args.length=rf.nargs) (h2:rf.nargs<=rf.ntmps):Rel (eZ rf args) (start rf args):=by
 refine ⟨fun n=>?_,by simp [eZ,start];omega,(T.tU _ _).1⟩;simp only [eZ,T.get,T.tS,zaO,if_true,Nat.sub_zero,start];simp only [List.getD];by_cases h:n < args.length
 ·rw [zai h]
 ·rw [zao (by omega),zaj (by omega),zbO];split<;>rfl
def Lz (ex:EX) (ext:qF):Prop:=∀ c base σ s e σ',vV σ s->ext c base σ=some (e,σ')->∃ s',ex c base s=some (e,s')/\vV σ' s'
theorem S1 {ex:EX} {ext:qF} (h:Lz ex ext) {rf:RF} {xs:List AV} {r:AV} (hr:FM ext rf xs=some r):YG ex rf xs=some r/\xs.length=rf.nargs+1:=by
 unfold FM at hr;unfold YG;split at hr
 case h_2=>simp at hr
 rename_i as;split at hr
 case isFalse=>simp at hr
 rename_i hc;refine ⟨?_,by simp [hc.1]⟩;change (if as.length=rf.nargs then _ else none)=some r;rw [if_pos hc.1];split at hr
 ·simp at hr
 ·rename_i e s' hne he;obtain ⟨s2,e1,e2⟩:=h _ _ _ ⟨start rf as,[]⟩ _ _ ⟨tV hc.1 hc.2,rfl⟩ he;rw [e1]
  cases e with
  | exit i=>exact (hne i rfl).elim
  | normal=>dsimp only;rw [<-eu e2,<-e2.2];exact hr
  | ret=>dsimp only;rw [<-eu e2,<-e2.2];exact hr
 ·simp at hr
theorem wJ (fns:Nat->Option RF) {ex:EX} {ext:qF} (h:Lz ex ext):(kh fns ext).le (m6 fns ex):=by
 intro f xs r hr;unfold kh at hr;unfold m6;split at hr
 case h_2=>simp at hr
 rename_i rf qA;rw [qA];dsimp only;split at hr
 case isFalse=>
  obtain ⟨h1,h2⟩:=S1 h hr;rw [if_neg (by omega)];exact h1
 rename_i hc;rw [if_pos hc.1];split at hr
 ·simp at hr
 ·rename_i e s' hne he;obtain ⟨s2,e1,e2⟩:=h _ _ _ ⟨start rf xs,[]⟩ _ _ ⟨tV hc.1 hc.2,rfl⟩ he;rw [e1]
  cases e with
  | exit i=>exact (hne i rfl).elim
  | normal=>dsimp only;rw [<-eu e2,<-e2.2];exact hr
  | ret=>dsimp only;rw [<-eu e2,<-e2.2];exact hr
 ·simp at hr
theorem G3 {ex:EX} {ext:qF} (h:Lz ex ext) {xs:List AV} {H:List Obj} {r:AV×List Obj} (e:vT ext xs H=some r):X4 ex xs H=some r:=by
 unfold vT at e;unfold X4;split at e
 case h_2=>simp at e
 rename_i l xs;dsimp only;split at e
 case h_2=>simp at e
 rename_i t ps b6 body hl;rw [hl];dsimp only;split at e
 case isFalse=>simp at e
 rename_i hlen;rw [if_pos hlen];split at e
 case h_2=>simp at e
 rename_i σ1 h1;obtain ⟨s1,e1,e2⟩:=h _ _ _ ⟨uS ps xs t,H⟩ _ _ ⟨Ax ps xs (Rel.Tv t),rfl⟩ h1;rw [e1];dsimp only;rw [e2.2] at e;split at e
 case h_2=>simp at e
 rename_i H1 Hj;rw [Hj];dsimp only;split at e
 ·rename_i σ2 h2;obtain ⟨s2,e3,e4⟩:=h _ _ ⟨σ1.tmps,H1⟩ ⟨s1.tmps,H1⟩ _ _ ⟨e2.1,rfl⟩ h2;rw [e3];dsimp only;rw [<-e4.2];exact e
 ·rename_i e' σ2 hne h2;obtain ⟨s2,e3,e4⟩:=h _ _ ⟨σ1.tmps,H1⟩ ⟨s1.tmps,H1⟩ _ _ ⟨e2.1,rfl⟩ h2;rw [e3]
  cases e' with
  | normal=>exact (hne rfl).elim
  | exit i=>dsimp only;rw [<-e4.2];exact e
  | ret=>dsimp only;rw [<-e4.2];exact e
 ·simp at e
theorem Gv (fns:Nat->Option RF) {ex:EX} {ext:qF} (h:Lz ex ext):(kg fns ext).le (AR fns ex):=by
 intro f xs H r hr;unfold kg at hr;unfold AR
 cases f with
 | none=>exact G3 h hr
 | some f=>
 dsimp only at hr ⊢;split at hr
 case h_2=>simp at hr
 rename_i rf qA;rw [qA];dsimp only;split at hr
 case isFalse=>
  cases hb:Nat.beq xs.length rf.nargs with
  | true=>rw [hb] at hr;cases hr
  | false=>
   rw [hb] at hr;rw [if_neg (fun e=>by rw [e,Nat.beq_refl] at hb;cases hb)];exact hr
 rename_i hc;rw [if_pos hc.1];split at hr
 ·simp at hr
 ·rename_i e s' hne he;obtain ⟨s2,e1,e2⟩:=h _ _ _ ⟨start rf xs,H⟩ _ _ ⟨tV hc.1 hc.2,rfl⟩ he;rw [e1]
  cases e with
  | exit i=>exact (hne i rfl).elim
  | normal=>dsimp only;rw [<-eu e2,<-e2.2];exact hr
  | ret=>dsimp only;rw [<-eu e2,<-e2.2];exact hr
 ·simp at hr
theorem ux (E:Env) (hp:Nat->Bool):∀ n,Lz (exec E hp n) (ak E hp n)
 | 0=>by intro c base σ s e σ' _ h;simp [ak] at h
 | n+1=>by
  have ih:=ux E hp n;intro c base σ s e σ' hr h
  cases c with
  | bad=>simp [ak] at h
  | skip=>simp only [ak,za2,za4] at h;obtain ⟨rfl,rfl⟩:=h;exact ⟨s,rfl,hr⟩
  | ret=>simp only [ak,za2,za4] at h;obtain ⟨rfl,rfl⟩:=h;exact ⟨s,rfl,hr⟩
  | exit i=>simp only [ak,za2,za4] at h;obtain ⟨rfl,rfl⟩:=h;exact ⟨s,rfl,hr⟩
  | seq a b=>
   simp only [ak] at h;simp only [exec];split at h
   ·rename_i σ1 h1;obtain ⟨s1,e1,e2⟩:=ih _ _ _ _ _ _ hr h1;rw [e1];exact ih _ _ _ _ _ _ e2 h
   ·rename_i hne;obtain ⟨s1,e1,e2⟩:=ih _ _ _ _ _ _ hr h;rw [e1]
    cases e with
    | normal=>exact (hne _ h).elim
    | _=>exact ⟨s1,rfl,e2⟩
  | cond x a b=>
   simp only [ak,hr.1.ev] at h;simp only [exec];split at h
   ·rename_i hx;rw [hx];exact ih _ _ _ _ _ _ hr h
   ·rename_i hx;rw [hx];exact ih _ _ _ _ _ _ hr h
   ·simp at h
  | block i b=>
   simp only [ak] at h;simp only [exec];split at h
   ·rename_i j σ1 h1;obtain ⟨s1,e1,e2⟩:=ih _ _ _ _ _ _ hr h1;rw [e1];dsimp only;split at h
    ·rename_i hj;rw [if_pos hj];simp only [za2,za4] at h;obtain ⟨rfl,rfl⟩:=h;exact ⟨s1,rfl,e2⟩
    ·rename_i hj;rw [if_neg hj];simp only [za2,za4] at h;obtain ⟨rfl,rfl⟩:=h;exact ⟨s1,rfl,e2⟩
   ·rename_i hne;obtain ⟨s1,e1,e2⟩:=ih _ _ _ _ _ _ hr h;rw [e1]
    cases e with
    | exit j=>exact (hne _ _ h).elim
    | _=>exact ⟨s1,rfl,e2⟩
  | loop b=>
   simp only [ak] at h;simp only [exec];split at h
   ·rename_i σ1 h1;obtain ⟨s1,e1,e2⟩:=ih _ _ _ _ _ _ hr h1;rw [e1];exact ih _ _ _ _ _ _ e2 h
   ·rename_i hne;obtain ⟨s1,e1,e2⟩:=ih _ _ _ _ _ _ hr h;rw [e1]
    cases e with
    | normal=>exact (hne _ h).elim
    | _=>exact ⟨s1,rfl,e2⟩
  | u5 ops=>
   simp only [ak] at h;simp only [exec];split at h
   case h_2=>simp at h
   rename_i t H h1;simp only [za2,za4] at h;obtain ⟨rfl,rfl⟩:=h;rw [hr.2] at h1;obtain ⟨l',e1,e2⟩:=iG E.aF hp (wJ E.fns ih) (Gv E.fns ih) ops hr.1 h1;exact ⟨⟨l',H⟩,by rw [e1],e2,rfl⟩
  | draw ops=>
   simp only [ak] at h;simp only [exec];split at h
   case h_2=>simp at h
   rename_i t H h1;simp only [za2,za4] at h;obtain ⟨rfl,rfl⟩:=h;rw [hr.2] at h1;obtain ⟨l',e1,e2⟩:=iG E.aF (fun _=>false) (wJ E.fns ih) (cH:=fun _ _ _=>none) (fun _ _ _ _ h=>h) ops hr.1 h1;exact ⟨⟨l',H⟩,by rw [e1],e2,rfl⟩
  | jG ops bf=>
   simp only [ak] at h;simp only [exec];split at h
   case h_2=>simp at h
   rename_i t H h1;simp only [za2,za4] at h;obtain ⟨rfl,rfl⟩:=h;rw [hr.2] at h1;obtain ⟨l',e1,e2⟩:=n9 E.aF hp (wJ E.fns ih) (Gv E.fns ih) bf ops hr.1 h1;exact ⟨⟨l',H⟩,by rw [e1],e2,rfl⟩
  | kB ops k ps=>
   simp only [ak] at h;simp only [exec];split at h
   case h_2=>simp at h
   rename_i t H fs h1;split at h
   case isFalse=>simp at h
   rename_i hps;simp only [za2,za4] at h;obtain ⟨rfl,rfl⟩:=h;rw [hr.2] at h1;obtain ⟨l',e1,e2⟩:=uD E.aF (wJ E.fns ih) ops hr.1 h1;exact ⟨⟨l',H⟩,by rw [e1];dsimp only;rw [if_pos hps],e2,rfl⟩
  | gh pre r post=>
   simp only [ak] at h;simp only [exec];split at h
   case h_2=>simp at h
   rename_i σ0 h0;obtain ⟨s0,e1,e2⟩:=kX pre hr h0;rw [e1];dsimp only;split at h
   ·rename_i σ1 h1;obtain ⟨s1,e3,e4⟩:=ih _ _ _ _ _ _ e2 h1;rw [e3];dsimp only;split at h
    case h_2=>simp at h
    rename_i σ2 h2;obtain ⟨s2,e5,e6⟩:=kX post e4 h2;rw [e5];dsimp only;simp only [za2,za4] at h;obtain ⟨rfl,rfl⟩:=h;exact ⟨s2,rfl,e6⟩
   ·rename_i hne;obtain ⟨s1,e3,e4⟩:=ih _ _ _ _ _ _ e2 h;rw [e3]
    cases e with
    | normal=>exact (hne _ h).elim
    | _=>exact ⟨s1,rfl,e4⟩
  | AT g ps b6 body=>
   simp only [ak,hr.1.ev,hr.1.toL] at h;simp only [exec];split at h
   case h_2=>simp at h
   rename_i f cap hx;rw [hx];dsimp only;rw [hr.2] at h;split at h
   case h_2=>simp at h
   rename_i u H' h1;have:=Gv E.fns ih _ _ _ _ h1;rw [this];dsimp only;split at h
   case h_2=>simp at h
   rename_i e' h2;simp only [za2,za4] at h;obtain ⟨rfl,rfl⟩:=h;rw [h2];exact ⟨_,rfl,hr.1,rfl⟩
end Go.Am.As
