/- The abstract machine with its slots in an association list, for proofs: what it computes, the machine computes. No condition. -/
import Derived.Test.YtafgdbaekppjcaaGreatDoorAmZ
set_option linter.unusedSectionVars false
set_option linter.unusedVariables false
set_option linter.unusedSimpArgs false
namespace Go.Am.As
structure T where
 sz:Nat
 l:List (Nat×AV)
namespace T
def fj:List (Nat×AV)->Nat->AV
 | [],_=> .any
 | (k,v)::r,n=>if k=n then v else fj r n
def sC:List (Nat×AV)->Nat->AV->List (Nat×AV)
 | [],n,x=>[(n,x)]
 | (k,v)::r,n,x=>if k=n then (n,x)::r else if n < k then (n,x)::(k,v)::r else (k,v)::sC r n x
def m6:List (Nat×AV)->Nat->List (Nat×AV)
 | [],_=>[]
 | (k,v)::r,n=>if k=n then m6 r n else (k,v)::m6 r n
def lg (n:Nat):List (Nat×AV)->Bool
 | []=>true
 | (_,v)::r=>v.bp n&&lg n r
def get (t:T) (n:Nat):AV:=fj t.l n
def put (t:T) (n:Nat) (x:AV):T:=if n < t.sz then ⟨t.sz,sC t.l n x⟩ else t
def fO:List Nat->T->T
 | [],t=>t
 | d::ds,t=>fO ds ⟨t.sz,m6 t.l d⟩
def aT (n:Nat) (t:T):Bool:=lg n t.l
def kf:List AV->Nat->List (Nat×AV)
 | [],_=>[]
 | x::xs,i=>(i,x)::kf xs (i+1)
theorem OR (n m:Nat):Nat.beq n m=decide (n=m):=by
 cases h:Nat.beq n m with
 | true=>simp [za3 h]
 | false=>have:=Nat.ne_of_beq_eq_false h;simp [this]
theorem tF:∀ (t:List (Nat×AV)) (i j:Nat) (x:AV),fj (sC t i x) j=if j=i then x else fj t j
 | [],i,j,x=>by
  simp only [sC,fj];by_cases h:i=j
  ·simp [h]
  ·have h':¬ j=i:=fun e=>h e.symm
   simp [h,h']
 | (k,v)::r,i,j,x=>by
  simp only [sC];by_cases hk:k=i
  ·subst hk;simp only [if_true,fj];by_cases h:k=j
   ·simp [h]
   ·have h':¬ j=k:=fun e=>h e.symm
    simp [h,h']
  ·by_cases hlt:i < k
   ·simp only [hk,hlt,if_false,if_true,fj];by_cases h:i=j
    ·simp [h]
    ·have h':¬ j=i:=fun e=>h e.symm
     simp [h,h']
   ·simp only [hk,hlt,if_false,fj,tF r];by_cases h:k=j
    ·subst h;simp [hk]
    ·simp [h]
theorem oE:∀ (t:List (Nat×AV)) (i j:Nat),fj (m6 t i) j=if j=i then .any else fj t j
 | [],i,j=>by simp [m6,fj]
 | (k,v)::r,i,j=>by
  simp only [m6];by_cases hk:k=i
  ·subst hk;simp only [if_true,oE r,fj];by_cases h:k=j
   ·simp [h]
   ·have h':¬ j=k:=fun e=>h e.symm
    simp [h,h']
  ·simp only [hk,if_false,fj,oE r];by_cases h:k=j
   ·subst h;simp [hk]
   ·simp [h]
theorem tQ:∀ (xs:List AV) (i j:Nat),fj (kf xs i) j=if i<=j then xs.getD (j - i) .any else .any
 | [],i,j=>by simp [kf,fj]
 | x::xs,i,j=>by
  simp only [kf,fj,tQ xs];by_cases h:i=j
  ·subst h;simp
  ·simp only [h,if_false];by_cases h2:i<=j
   ·have e:j - i=(j - (i+1))+1:=by omega
    rw [if_pos (by omega),if_pos h2,e];rfl
   ·rw [if_neg (by omega),if_neg h2]
def keys (t:List (Nat×AV)):List Nat:=t.map (·.1)
abbrev Jk (l:List Nat):Prop:=l.Pairwise (· < ·)
theorem rH:∀ (t:List (Nat×AV)),Jk (keys t)->∀ k v,(k,v)∈t->fj t k=v
 | [],_,k,v,h=>by simp at h
 | (i,u)::r,hn,k,v,h=>by
  simp only [keys,za5,zaB] at hn;simp only [fj];rcases zam.1 h with h | h
  ·injection h with h1 h2;subst h1;subst h2;simp
  ·have:i≠k:=by rintro rfl;exact zc _ (hn.1 _ (zbv.2 ⟨_,h,rfl⟩))
   simp only [this,if_false];exact rH r hn.2 k v h
theorem I5 (n:Nat) (t:List (Nat×AV)) (hn:Jk (keys t)):lg n t=true↔∀ i,(fj t i).bp n=true:=by
 constructor
 ·intro h;clear hn;induction t with
  | nil=>intro i;simp [fj,AV.bp]
  | cons x r ih=>
   obtain ⟨k,v⟩:=x;simp only [lg,za0] at h;intro i;simp only [fj];by_cases hk:k=i
   ·simp [hk,h.1]
   ·simp [hk,ih h.2 i]
 ·intro h;have:∀ s:List (Nat×AV),(∀ k v,(k,v)∈s->v.bp n=true)->lg n s=true:=by
   intro s;induction s with
   | nil=>intro _;rfl
   | cons x r ih=>
    intro hs;obtain ⟨k,v⟩:=x;simp only [lg,za0];exact ⟨hs k v (by simp),ih fun k' v' hm=>hs k' v' (by simp [hm])⟩
  refine this t fun k v hm=>?_
  rw [<-rH t hn k v hm];exact h k
theorem Ac:∀ (t:List (Nat×AV)) (n:Nat) (x:AV),(∀ k∈keys (sC t n x),k=n\/k∈keys t)/\(Jk (keys t)->Jk (keys (sC t n x)))
 | [],n,x=>by simp [sC,keys,Jk]
 | (k,v)::r,n,x=>by
  obtain ⟨h1,h2⟩:=Ac r n x;simp only [sC];by_cases hk:k=n
  ·subst hk;simp [keys]
  ·by_cases hlt:n < k
   ·simp only [hk,hlt,if_false,if_true];refine ⟨fun j hj=>by simpa [keys] using hj,fun hn=>?_⟩;simp only [keys,za5,Jk,zaB,zam,forall_eq_or_imp] at hn ⊢;exact ⟨⟨hlt,fun j hj=>Nat.lt_trans hlt (hn.1 j hj)⟩,hn⟩
   ·simp only [hk,hlt,if_false];constructor
    ·intro j hj;simp only [keys,za5,zam] at hj ⊢;rcases hj with hj | hj
     ·exact .inr (.inl hj)
     ·rcases h1 j hj with e | e
      ·exact .inl e
      ·exact .inr (.inr e)
    ·intro hn;simp only [keys,za5,Jk,zaB] at hn ⊢;refine ⟨fun j hm=>?_,h2 hn.2⟩;rcases h1 j hm with e | e
     ·omega
     ·exact hn.1 j e
theorem tR:∀ (t:List (Nat×AV)) (n:Nat),(keys (m6 t n)).Sublist (keys t)
 | [],n=>by simp [m6,keys]
 | (k,v)::r,n=>by
  simp only [m6];by_cases h:k=n
  ·simp only [h,if_true];exact (tR r n).trans (List.sublist_cons_self _ _)
  ·simp only [h,if_false];exact (tR r n).cons_cons _
theorem tS:∀ (xs:List AV) (i:Nat),Jk (keys (kf xs i))/\∀ k∈keys (kf xs i),i<=k
 | [],i=>by simp [kf,keys,Jk]
 | x::xs,i=>by
  obtain ⟨h1,h2⟩:=tS xs (i+1);simp only [kf,keys,za5,Jk,zaB,zam,forall_eq_or_imp];refine ⟨⟨fun k hm=>?_,h1⟩,za6 _,fun k hk=>?_⟩
  ·have:=h2 k hm;omega
  ·have:=h2 k hk;omega
end T
def Rel (τ:T) (l:List AV):Prop:=(∀ n,τ.get n=l.getD n .any)/\τ.sz=l.length/\T.Jk (T.keys τ.l)
theorem Rel.put {τ:T} {l:List AV} (h:Rel τ l) (d:Nat) (v:AV):Rel (τ.put d v) (l.set d v):=by
 unfold T.put;rw [h.2.1];by_cases hl:d < l.length
 ·simp only [hl,if_true];refine ⟨fun n=>?_,by simp,(T.Ac _ _ _).2 h.2.2⟩;simp only [T.get,T.tF];by_cases hn:n=d
  ·subst hn;simp [List.getD,hl]
  ·rw [if_neg hn];have:=h.1 n;simp only [T.get] at this;rw [this];simp only [List.getD];rw [za7 (fun e=>hn e.symm)]
 ·simp only [hl,if_false];have:l.set d v=l:=List.set_eq_of_length_le (by omega);rw [this];exact h
theorem Rel.del {τ:T} {l:List AV} (h:Rel τ l) (d:Nat):Rel ⟨τ.sz,T.m6 τ.l d⟩ (l.set d .any):=by
 refine ⟨fun n=>?_,by simp [h.2.1],h.2.2.sublist (T.tR _ _)⟩;simp only [T.get,T.oE];by_cases hn:n=d
 ·subst hn;by_cases hl:n < l.length
  ·simp [List.getD,hl]
  ·simp [List.getD,hl]
 ·rw [if_neg hn];have:=h.1 n;simp only [T.get] at this;rw [this];simp only [List.getD];rw [za7 (fun e=>hn e.symm)]
theorem Rel.fO {l:List AV}:∀ (ds:List Nat) {τ:T} {l:List AV},Rel τ l->Rel (T.fO ds τ) (Am.fO ds l)
 | [],_,_,h=>h
 | d::ds,_,_,h=>Rel.fO (l:=l) ds (h.del d)
theorem Rel.aT {τ:T} {l:List AV} (h:Rel τ l) (n:Nat):T.aT n τ=AV.aT n l:=by
 have:(T.aT n τ=true)↔(AV.aT n l=true):=by
  rw [T.aT,T.I5 n _ h.2.2,zC];have e:∀ i,T.fj τ.l i=l.getD i .any:=h.1;simp only [e]
 cases h1:T.aT n τ<;>cases h2:AV.aT n l<;>simp [h1,h2] at this ⊢
def T.toL (τ:T):List AV:=(List.range τ.sz).map τ.get
def T.Rs (l:List AV):T:=⟨l.length,T.kf l 0⟩
theorem Rel.toL {τ:T} {l:List AV} (h:Rel τ l):τ.toL=l:=by
 apply zb0
 ·simp [T.toL,h.2.1]
 ·intro i h1 h2;simp only [T.toL,zax,zaX,h.1];simp [List.getD,h2]
theorem Rel.Rs (l:List AV):Rel (T.Rs l) l:=by
 refine ⟨fun n=>?_,rfl,(T.tS _ _).1⟩;simp only [T.Rs,T.get,T.tQ,zaJ,if_true,Nat.sub_zero]
def gq (G:Nat->List AV) (τ:T):RX->AV
 | .t n=>τ.get n
 | .c v=>v
 | .g g=> .bZ (G g)
theorem Rel.ev {τ:T} {l:List AV} (h:Rel τ l) (G:Nat->List AV):gq G τ=RX.ev G l:=by
 funext r
 cases r with
 | t n=>exact h.1 n
 | _=>rfl
def cZ (t:T) (d:Option Nat) (v:AV):T:=match d with | some d=>t.put d v | none=>t
def dn (t:T):Option (Nat×Bool)->Option Bool
 | none=>some true
 | some (s,b)=>match t.get s with
  | .bool c=>some (c==b)
  | .bl []=>some false
  | _=>none
theorem Rel.want {τ:T} {l:List AV} (h:Rel τ l) (g:Option (Nat×Bool)):dn τ g=want l g:=by
 cases g with
 | none=>rfl
 | some g=>obtain ⟨s,b⟩:=g;simp only [dn,Am.want,h.1];rfl
theorem Rel.cZ {τ:T} {l:List AV} (h:Rel τ l) (d:Option Nat) (v:AV):Rel (cZ τ d v) (cY l d v):=by
 cases d with
 | none=>exact h
 | some d=>exact h.put d v
def bg (G:Nat->List AV) (hp:Nat->Bool) (cI:CI) (cH:CH):List bH->T->List Obj->Option (T×List Obj)
 | [],t,H=>some (t,H)
 | o::os,t,H=>
  match dn t o.guard with
  | some true=>(match bV (gq G t) hp cI cH H.length o.op H with
   | some (v,H')=>Jt v fun v=>bg G hp cI cH os (cZ t o.dst v) H'
   | none=>none)
  | some false=>bg G hp cI cH os (cZ t o.dst (.bl [])) H
  | none=>none
theorem iF (G:Nat->List AV) (hp:Nat->Bool) {cI JC:CI} {cH Rt:CH} (h1:JC.le cI) (h2:Rt.le cH):∀ (os:List bH) {τ τ':T} {l:List AV} {H H':List Obj},Rel τ l->
 bg G hp JC Rt os τ H=some (τ',H')->∃ l',bO G hp cI cH os l H=some (l',H')/\Rel τ' l'
 | [],τ,τ',l,H,H',hr,h=>by
  simp only [bg,za1,za4] at h;obtain ⟨rfl,rfl⟩:=h;exact ⟨l,rfl,hr⟩
 | o::os,τ,τ',l,H,H',hr,h=>by
  rw [bg,hr.want,hr.ev] at h;rw [bO];split at h
  ·rename_i hw;rw [hw];split at h
   case h_2=>simp at h
   rename_i v H1 he;rw [eo] at h;rw [rF,gf h1 h2 he];exact iF G hp h1 h2 os (hr.cZ o.dst v) h
  ·rename_i hw;rw [hw];exact iF G hp h1 h2 os (hr.cZ o.dst _) h
  ·simp at h
def lA (G:Nat->List AV) (hp:Nat->Bool) (cI:CI) (cH:CH) (o:bH) (t:T) (H:List Obj):Option (AV×List Obj):=
 match dn t o.guard with
 | some true=>bV (gq G t) hp cI cH H.length o.op H
 | some false=>some (.bl [],H)
 | none=>none
theorem Ea (G:Nat->List AV) (hp:Nat->Bool) {cI JC:CI} {cH Rt:CH} (h1:JC.le cI) (h2:Rt.le cH) {o:bH} {τ:T} {l:List AV} {H:List Obj} {r} (hr:Rel τ l)
 (h:lA G hp JC Rt o τ H=some r):iW G hp cI cH o l H=some r:=by
 unfold lA at h;unfold iW;rw [hr.want,hr.ev] at h;split at h
 ·rename_i hw;rw [hw];dsimp only;rw [rF];exact gf h1 h2 h
 ·rename_i hw;rw [hw];exact h
 ·simp at h
def H7 (G:Nat->List AV) (o:bH) (t:T):List Obj->Option AV:=fun A=>match dn t o.guard with
 | some true=>en (gq G t) A o.op
 | some false=>some (.bl [])
 | none=>none
theorem Vo (G:Nat->List AV) {o:bH} {τ:T} {l:List AV} (hr:Rel τ l):H7 G o τ=m7 G o l:=by
 funext A
 unfold H7 m7;rw [hr.want,hr.ev];split<;>simp only [GQ, *]
def g9 (G:Nat->List AV) (hp:Nat->Bool) (cI:CI) (cH:CH) (bf:List Nat):List bH->Nat->List (Nat×(List Obj->Option AV)×AV)->List (Nat×List Obj×List Obj)->T->List Obj->Option (T×List Obj)
 | [],_,_,_,t,H=>some (t,H)
 | o::os,i,rs,hs,t,H=>
  match lA G hp cI cH o t H with
  | none=>none
  | some (v,H')=>Jt v fun v=>match o.op.kind with
   | .pure=>g9 G hp cI cH bf os (i+1) rs hs (cZ t o.dst v) H'
   | .read=>if (hs.all fun h=>bit bf i h.1||(jz (H7 G o t) v h.2.1&&jz (H7 G o t) v h.2.2))=true then
    g9 G hp cI cH bf os (i+1) ((i,H7 G o t,v)::rs) hs (cZ t o.dst v) H' else none
   | _=>if (rs.all fun r=>bit bf i r.1||(jz r.2.1 r.2.2 H&&jz r.2.1 r.2.2 H'))=true then
    g9 G hp cI cH bf os (i+1) rs ((i,H,H')::hs) (cZ t o.dst v) H' else none
theorem n8 (G:Nat->List AV) (hp:Nat->Bool) {cI JC:CI} {cH Rt:CH} (h1:JC.le cI) (h2:Rt.le cH) (bf:List Nat):∀ (os:List bH) {i:Nat} {rs:List (Nat×(List Obj->Option AV)×AV)} {hs:List (Nat×List Obj×List Obj)} {τ τ':T} {l:List AV} {H H':List Obj},Rel τ l->
 g9 G hp JC Rt bf os i rs hs τ H=some (τ',H')->∃ l',vQ G hp cI cH bf os i rs hs l H=some (l',H')/\Rel τ' l'
 | [],i,rs,hs,τ,τ',l,H,H',hr,h=>by
  simp only [g9,za1,za4] at h;obtain ⟨rfl,rfl⟩:=h;exact ⟨l,rfl,hr⟩
 | o::os,i,rs,hs,τ,τ',l,H,H',hr,h=>by
  rw [g9] at h;rw [vQ];split at h
  ·simp at h
  rename_i v H1 ha;rw [eo] at h;rw [Ea G hp h1 h2 hr ha];dsimp only;rw [Vo G hr] at h
  cases hk:o.op.kind<;>rw [hk] at h<;>dsimp only at h ⊢
  ·exact n8 G hp h1 h2 bf os (hr.cZ o.dst v) h
  all_goals
   split at h
   case isFalse=>simp at h
   rename_i hc;rw [if_pos hc];exact n8 G hp h1 h2 bf os (hr.cZ o.dst v) h
def nF (G:Nat->List AV) (cI:CI) (pl:Nat) (o:bH) (t:T) (H:List Obj):Option (AV×List Obj×FP):=
 match dn t o.guard with
 | some true=>if sB H pl o.op=true then
  (match fM (gq G t) cI pl o.op H with
   | some (v,H')=>some (v,H',mN (gq G t) pl o.op)
   | none=>none) else none
 | some false=>some (.bl [],H,{})
 | none=>none
def gF (G:Nat->List AV) (cI:CI) (b:Nat):List (Nat×bH)->T->List Obj->Option (T×List Obj×List FP)
 | [],t,H=>some (t,H,[])
 | (k,o)::os,t,H=>
  match nF G cI (b+k) o t H with
  | some (v,H',f)=>Jt v fun v=>(match gF G cI b os (cZ t o.dst v) H' with
   | some (t',WV,fs)=>some (t',WV,f::fs)
   | none=>none)
  | none=>none
theorem uB (G:Nat->List AV) {cI JC:CI} (h1:JC.le cI) {b:Nat}:∀ (os:List (Nat×bH)) {τ τ':T} {l:List AV} {H H':List Obj} {fs:List FP},Rel τ l->
 gF G JC b os τ H=some (τ',H',fs)->∃ l',gD G cI b os l H=some (l',H',fs)/\Rel τ' l'
 | [],τ,τ',l,H,H',fs,hr,h=>by
  simp only [gF,za1,za4] at h;obtain ⟨rfl,rfl,rfl⟩:=h;exact ⟨l,rfl,hr⟩
 | (k,o)::os,τ,τ',l,H,H',fs,hr,h=>by
  rw [gF] at h;rw [gD];split at h
  case h_2=>simp at h
  rename_i v H1 f ha;rw [eo] at h;split at h
  case h_2=>simp at h
  rename_i t1 H2 fs1 hrun;simp only [za1,za4] at h;obtain ⟨rfl,rfl,rfl⟩:=h;have Sy:qF G cI (b+k) o l H=some (v,H1,f):=by
   unfold nF at ha;rw [hr.want,hr.ev] at ha;unfold qF;split at ha
   ·rename_i hw;rw [hw];split at ha
    case isFalse=>simp at ha
    rename_i hp;split at ha
    case h_2=>simp at ha
    rename_i u H3 he;dsimp only;rw [if_pos hp,Pk,zD (b:=cI) h1 he,Ug];exact ha
   ·rename_i hw;rw [hw];exact ha
   ·simp at ha
  obtain ⟨l',e1,e2⟩:=uB G h1 os (hr.cZ o.dst v) hrun;exact ⟨l',by rw [Sy];dsimp only;rw [e1],e2⟩
structure ST where
 tmps:T
 H:List Obj
def pI (t:Nat) (s:ST):Option ST:=
 match s.tmps.get t with
 | .own id ext off len=>
  (match aH s.H id with
   | some (_,es)=>if ext=es.length/\AV.bN 0 ((es.drop off).take len)=true/\(cD s.H id).free=true then
    some ⟨s.tmps.put t (su (cD s.H id) es ((es.drop off).take len)),s.H.set id .dead⟩ else none
   | none=>none)
 | _=>some s
def lq (t:Nat) (s:ST):Option ST:=
 match s.tmps.get t with
 | .aA id 1 0 0=>(match s.H[id]? with
  | some (.live .norm _ [cs])=>if AV.aT 0 cs=true then some ⟨s.tmps.put t (.bZ cs),s.H.set id .dead⟩ else none
  | _=>none)
 | _=>none
def vO:List Nat->ST->ST
 | [],s=>s
 | t::ts,s=>vO ts ⟨s.tmps.put t (s.tmps.get t).wk,NR s.H (s.tmps.get t)⟩
def aG (base:Nat) (s:ST):GA->Option ST
 | .sh t=>(match s.tmps.get t with
  | .own id _ _ _=>(match aH s.H id with | some (_,_::_)=>some ⟨s.tmps,mark Fl.sh s.H id⟩ | _=>some s)
  | _=>some s)
 | .res t=>(match s.tmps.get t with
  | .own id _ _ _=>if we (s.H.drop (id+1))=true then some ⟨s.tmps,mark Fl.res s.H id⟩ else some s
  | _=>some s)
 | .wk l=>some (vO l s)
 | .kill l=>some ⟨T.fO l s.tmps,s.H⟩
 | .kn n=>if Nat.blt (base+n) s.H.length&&(T.aT (base+n) s.tmps&&bW (base+n) (s.H.take (base+n))) then some ⟨s.tmps,s.H.take (base+n)⟩ else some s
 | .ua t=>(match pI t s with | some s'=>some s' | none=>some s)
 | .nk t=>(match lq t s with | some s'=>some s' | none=>some s)
 | .prom t sz=>(match s.tmps.get t with
  | .bD=>some ⟨s.tmps.put t (.own s.H.length 0 0 0),s.H++[.live .nil sz []]⟩
  | _=>some s)
 | .o8 t off sz=>(match s.tmps.get t with
  | .aA id ext e o=>(match loadAt s.H 1 false (.aA id ext e (o+off)) with
   | some .bD=>(match storeAt (s.H++[.live .nil sz []]) 1 (.aA id ext e (o+off)) (.own s.H.length 0 0 0) with
    | some H'=>some ⟨s.tmps,H'⟩
    | none=>none)
   | _=>some s)
  | _=>some s)
 | .yR t off=>(match s.tmps.get t with
  | .aA id ext e o=>(match loadAt s.H 1 false (.aA id ext e (o+off)) with
   | some (.own j ext' off' len')=>if j=id then none else (match ke 0 ⟨[.own j ext' off' len'],s.H⟩ with
    | some ⟨[r],H1⟩=>(match storeAt H1 1 (.aA id ext e (o+off)) r with
     | some H'=>some ⟨s.tmps,H'⟩
     | none=>none)
    | _=>some s)
   | _=>some s)
  | _=>some s)
 | .cut t=>(match s.tmps.get t with
  | .own id ext 0 len=>(match s.H[id]? with
   | some (.live .norm sz es)=>if (Nat.ble base id&&Nat.beq (id+1) s.H.length)&&(Nat.beq ext es.length&&Nat.ble len ext)&&(T.aT id (s.tmps.put t .any)&&bW id (s.H.take id))&&AV.bN id es then
    some ⟨s.tmps.put t (.own id len 0 len),s.H.set id (.live .norm sz (es.take len))⟩ else none
   | _=>none)
  | _=>none)
def cN (base:Nat):List GA->ST->Option ST
 | [],s=>some s
 | g::gs,s=>match aG base s g with | some s'=>cN base gs s' | none=>none
def vV (σ:ST) (s:St):Prop:=Rel σ.tmps s.tmps/\σ.H=s.H
theorem DI:∀ (ts:List Nat) {σ:ST} {s:St},vV σ s->vV (vO ts σ) (WN ts s)
 | [],_,_,h=>h
 | t::ts,σ,s,h=>by
  simp only [vO,WN];refine DI ts ⟨?_,?_⟩
  ·simp only [h.1.1];exact h.1.put _ _
  ·simp only [h.1.1,h.2]
theorem yY {base:Nat} {σ σ':ST} {s:St} (hr:vV σ s) {g:GA} (h:aG base σ g=some σ'):∃ s',dB base s g=some s'/\vV σ' s':=by
 by_cases hwk:∃ l,g= .wk l
 ·obtain ⟨l,rfl⟩:=hwk;simp only [aG,za1] at h;subst h;exact ⟨_,rfl,DI l hr⟩
 obtain ⟨t,H⟩:=σ;obtain ⟨l,H2⟩:=s;obtain ⟨hr,hH⟩:=hr;simp only at hr hH;subst hH
 cases g with
 | sh i=>
  simp only [aG,hr.1] at h;simp only [dB];split at h
  ·rename_i hs;simp only [hs];split at h
   ·rename_i hl;simp only [hl];injection h with h;subst h;exact ⟨_,rfl,hr,rfl⟩
   ·rename_i hne;injection h with h;subst h
    refine ⟨⟨l,H⟩,?_,hr,rfl⟩;split
    ·rename_i a b c hl;exact (hne a b c hl).elim
    ·rfl
  ·rename_i hne;injection h with h;subst h
   refine ⟨⟨l,H⟩,?_,hr,rfl⟩;split
   ·rename_i id ext off len hs;exact (hne id ext off len hs).elim
   ·rfl
 | res i=>
  simp only [aG,hr.1] at h;simp only [dB];split at h
  ·rename_i hs;simp only [hs];split at h
   ·rename_i hl;rw [if_pos hl];injection h with h;subst h;exact ⟨_,rfl,hr,rfl⟩
   ·rename_i hl;rw [if_neg hl];injection h with h;subst h;exact ⟨_,rfl,hr,rfl⟩
  ·rename_i hne;injection h with h;subst h
   refine ⟨⟨l,H⟩,?_,hr,rfl⟩;split
   ·rename_i id ext off len hs;exact (hne id ext off len hs).elim
   ·rfl
 | wk l=>exact (hwk ⟨l,rfl⟩).elim
 | kill ds=>
  simp only [aG,za1] at h;subst h;exact ⟨_,rfl,Rel.fO (l:=l) ds hr,rfl⟩
 | kn n=>
  simp only [aG,hr.aT] at h;simp only [dB];split at h
  ·rename_i hc;rw [if_pos hc];injection h with h;subst h;exact ⟨_,rfl,hr,rfl⟩
  ·rename_i hc;rw [if_neg hc];injection h with h;subst h;exact ⟨_,rfl,hr,rfl⟩
 | ua i=>
  have key:∀ σ1,pI i ⟨t,H⟩=some σ1->∃ s',ke i ⟨l,H⟩=some s'/\vV σ1 s':=by
   intro σ1 h;simp only [pI,hr.1] at h;simp only [ke];split at h
   ·rename_i hs;simp only [hs];split at h
    case h_2=>simp at h
    rename_i hl;rw [hl];dsimp only;split at h
    case isFalse=>simp at h
    rename_i hc;rw [if_pos hc];injection h with h;subst h
    exact ⟨_,rfl,hr.put _ _,rfl⟩
   ·rename_i hne;injection h with h;subst h
    refine ⟨⟨l,H⟩,?_,hr,rfl⟩;split
    ·rename_i id ext off len hs;exact (hne id ext off len hs).elim
    ·rfl
  have TP:pI i ⟨t,H⟩=none->ke i ⟨l,H⟩=none:=by
   intro h;simp only [pI,hr.1] at h;simp only [ke];split at h
   ·rename_i hs;simp only [hs];split at h
    ·rename_i hl;rw [hl];dsimp only;split at h
     ·simp at h
     ·rename_i hc;rw [if_neg hc]
    ·rename_i hl;rw [hl]
   ·simp at h
  simp only [aG] at h;simp only [dB];split at h
  ·rename_i σ1 h1;injection h with h;subst h
   obtain ⟨s',e1,e2⟩:=key _ h1;exact ⟨s',by rw [e1],e2⟩
  ·rename_i h1;injection h with h;subst h
   exact ⟨⟨l,H⟩,by rw [TP h1],hr,rfl⟩
 | nk i=>
  have key:∀ σ1,lq i ⟨t,H⟩=some σ1->∃ s',uh i ⟨l,H⟩=some s'/\vV σ1 s':=by
   intro σ1 h;simp only [lq,hr.1] at h;simp only [uh];split at h
   case h_2=>simp at h
   rename_i hs;simp only [hs];split at h
   case h_2=>simp at h
   rename_i hl;rw [hl];dsimp only;split at h
   case isFalse=>simp at h
   rename_i hc;rw [if_pos hc];injection h with h;subst h
   exact ⟨_,rfl,hr.put _ _,rfl⟩
  have TP:lq i ⟨t,H⟩=none->uh i ⟨l,H⟩=none:=by
   intro h
   cases h2:uh i ⟨l,H⟩ with
   | none=>rfl
   | some s2=>
    exfalso;simp only [uh] at h2;simp only [lq,hr.1] at h;split at h2
    case h_2=>simp at h2
    rename_i hs;simp only [hs] at h;split at h2
    case h_2=>simp at h2
    rename_i hl;rw [hl] at h;dsimp only at h;split at h2
    case isFalse=>simp at h2
    rename_i hc;rw [if_pos hc] at h;simp at h
  simp only [aG] at h;simp only [dB];split at h
  ·rename_i σ1 h1;injection h with h;subst h
   obtain ⟨s',e1,e2⟩:=key _ h1;exact ⟨s',by rw [e1],e2⟩
  ·rename_i h1;injection h with h;subst h
   exact ⟨⟨l,H⟩,by rw [TP h1],hr,rfl⟩
 | prom i sz=>
  simp only [aG,hr.1] at h;simp only [dB];split at h
  case h_2=>
   rename_i hne;injection h with h;subst h
   refine ⟨⟨l,H⟩,?_,hr,rfl⟩;split
   ·rename_i hs;exact (hne hs).elim
   ·rfl
  rename_i hs;simp only [hs];injection h with h;subst h
  exact ⟨_,rfl,hr.put _ _,rfl⟩
 | o8 i off sz=>
  simp only [aG,hr.1] at h;simp only [dB];split at h
  case h_2=>
   rename_i hne;injection h with h;subst h
   refine ⟨⟨l,H⟩,?_,hr,rfl⟩;split
   ·rename_i id ext e o hs;exact (hne id ext e o hs).elim
   ·rfl
  rename_i id ext e o hs;simp only [hs];split at h
  case h_2=>
   rename_i hne;injection h with h;subst h
   refine ⟨⟨l,H⟩,?_,hr,rfl⟩;split
   ·rename_i hl;exact (hne hl).elim
   ·rfl
  rename_i hl;simp only [hl];split at h
  case h_2=>simp at h
  rename_i H' hst;simp only [hst];injection h with h;subst h
  exact ⟨_,rfl,hr,rfl⟩
 | yR i off=>
  simp only [aG,hr.1] at h;simp only [dB];split at h
  case h_2=>
   rename_i hne;injection h with h;subst h
   refine ⟨⟨l,H⟩,?_,hr,rfl⟩;split
   ·rename_i id ext e o hs;exact (hne id ext e o hs).elim
   ·rfl
  rename_i id ext e o hs;simp only [hs];split at h
  case h_2=>
   rename_i hne;injection h with h;subst h
   refine ⟨⟨l,H⟩,?_,hr,rfl⟩;split
   ·rename_i j a b c hs;exact (hne j a b c hs).elim
   ·rfl
  rename_i j ext' off' len' hl;simp only [hl];split at h
  ·simp at h
  rename_i hji;rw [if_neg hji];split at h
  case h_2=>
   rename_i hne;injection h with h;subst h
   refine ⟨⟨l,H⟩,?_,hr,rfl⟩;split
   ·rename_i r H1 hs;exact (hne r H1 hs).elim
   ·rfl
  rename_i r H1 hz;simp only [hz];split at h
  case h_2=>simp at h
  rename_i H' hst;simp only [hst];injection h with h;subst h
  exact ⟨_,rfl,hr,rfl⟩
 | cut i=>
  simp only [aG,hr.1] at h;simp only [dB];split at h
  case h_2=>simp at h
  rename_i id ext len hs;simp only [hs];split at h
  case h_2=>simp at h
  rename_i sz es hl;simp only [hl];rw [(hr.put i .any).aT id] at h;split at h
  case isFalse=>simp at h
  rename_i hc;rw [if_pos hc];injection h with h;subst h
  exact ⟨_,rfl,hr.put _ _,rfl⟩
theorem kP {base:Nat}:∀ (gs:List GA) {σ σ':ST} {s:St},vV σ s->cN base gs σ=some σ'->∃ s',iX base gs s=some s'/\vV σ' s'
 | [],σ,σ',s,hr,h=>by simp only [cN,za1] at h;subst h;exact ⟨s,rfl,hr⟩
 | g::gs,σ,σ',s,hr,h=>by
  rw [cN] at h;split at h
  case h_2=>simp at h
  rename_i σ1 h1;obtain ⟨s1,e1,e2⟩:=yY hr h1;obtain ⟨s2,e3,e4⟩:=kP gs e2 h;exact ⟨s2,by rw [iX,e1];exact e3,e4⟩
def bP (rs:List (Sum Nat (Nat×Nat×Bool))) (s:ST):Option (List AV):=
 match rs with
 | []=>some []
 | .inl t::r=>(match bP r s with | some l=>some (s.tmps.get t::l) | none=>none)
 | .inr (t,n,ag)::r=>(match loadAt s.H n ag (s.tmps.get t),bP r s with | some v,some l=>some (v::l) | _,_=>none)
theorem eD {σ:ST} {s:St} (hr:vV σ s):∀ rs,bP rs σ=cQ rs s
 | []=>rfl
 | .inl t::r=>by simp only [bP,cQ,eD hr r,hr.1.1];rfl
 | .inr (t,n,ag)::r=>by simp only [bP,cQ,eD hr r,hr.1.1,hr.2];rfl
abbrev qB:=RC->Nat->ST->Option (Ex×ST)
def fm (rf:RF) (args:List AV):T:=⟨rf.ntmps,T.kf args 0⟩
def EO (ex:qB) (rf:RF) (args:List AV):Option AV:=match args with
 | .aA 0 0 0 0::as=>if as.length=rf.nargs/\rf.nargs<=rf.ntmps then
  (match ex rf.body 0 ⟨fm rf as,[]⟩ with
   | some (.exit _,_)=>none
   | some (_,s')=>(match bP rf.results s' with
    | some [v]=>qO s'.H v
    | _=>none)
   | none=>none)
  else none
 | _=>none
def j5 (fns:Nat->Option RF) (ex:qB):CI:=fun f args=>match fns f with
 | some rf=>if args.length=rf.nargs/\rf.nargs<=rf.ntmps then
  (match ex rf.body 0 ⟨fm rf args,[]⟩ with
   | some (.exit _,_)=>none
   | some (_,s')=>(match bP rf.results s' with | some l=>pack s'.H (oneOf l) | none=>none)
   | none=>none)
  else EO ex rf args
 | none=>none
def qQ:List Nat->List AV->T->T
 | p::ps,x::xs,t=>qQ ps xs (t.put p x)
 | _,_,t=>t
theorem Ad:∀ (ps:List Nat) (xs:List AV) {τ:T} {l:List AV},Rel τ l->Rel (qQ ps xs τ) (uM ps xs l)
 | p::ps,x::xs,_,_,h=>by rw [qQ,uM];exact Ad ps xs (h.put p x)
 | [],_,_,_,h=>by rw [qQ,uM]<;>simp_all
 | _::_,[],_,_,h=>by rw [qQ,uM]<;>simp_all
def vT (ex:qB) (args:List AV) (H:List Obj):Option (AV×List Obj):=match args with
 | .fI l::xs=>(match H[l]? with
  | some (.lp .ready t ps b6 body)=>if xs.length=ps.length then
   (match ex b6 H.length ⟨qQ ps xs (T.Rs t),H⟩ with
    | some (.normal,s1)=>(match jH .ready .busy s1.H l with
     | some H1=>(match ex body H.length ⟨s1.tmps,H1⟩ with
      | some (.normal,s2)=>(match jH .busy .ready s2.H l with | some H2=>some (.bool true,H2) | none=>none)
      | some (e,s2)=>(match jH .busy (.done e) s2.H l with | some H2=>some (.bool false,H2) | none=>none)
      | none=>none)
     | none=>none)
    | _=>none) else none
  | _=>none)
 | _=>none
def kh (fns:Nat->Option RF) (ex:qB):CH:=fun f args H=>match f with
 | none=>vT ex args H
 | some f=>match fns f with
 | some rf=>if args.length=rf.nargs/\rf.nargs<=rf.ntmps then
  (match ex rf.body H.length ⟨fm rf args,H⟩ with
   | some (.exit _,_)=>none
   | some (_,s')=>(match bP rf.results s' with | some l=>some (oneOf l,s'.H) | none=>none)
   | none=>none)
  else none
 | none=>none
def ak (E:Env) (hp:Nat->Bool):Nat->qB
 | 0,_,_,_=>none
 | n+1,c,base,s=>
  match c with
  | .bad=>none
  | .skip=>some (.normal,s)
  | .ret=>some (.ret,s)
  | .exit id=>some (.exit id,s)
  | .seq a b=>(match ak E hp n a base s with
   | some (.normal,s')=>ak E hp n b base s'
   | r=>r)
  | .cond x a b=>(match gq E.aJ s.tmps x with
   | .bool true=>ak E hp n a base s
   | .bool false=>ak E hp n b base s
   | _=>none)
  | .block id b=>(match ak E hp n b base s with
   | some (.exit i,s')=>if i=id then some (.normal,s') else some (.exit i,s')
   | r=>r)
  | .loop b=>(match ak E hp n b base s with
   | some (.normal,s')=>ak E hp n (.loop b) base s'
   | r=>r)
  | .u6 ops=>(match bg E.aJ hp (j5 E.fns (ak E hp n)) (kh E.fns (ak E hp n)) ops s.tmps s.H with
   | some (t,H)=>some (.normal,⟨t,H⟩)
   | none=>none)
  | .draw ops=>(match bg E.aJ (fun _=>false) (j5 E.fns (ak E hp n)) (fun _ _ _=>none) ops s.tmps s.H with
   | some (t,H)=>some (.normal,⟨t,H⟩)
   | none=>none)
  | .jG ops bf=>(match g9 E.aJ hp (j5 E.fns (ak E hp n)) (kh E.fns (ak E hp n)) bf ops 0 [] [] s.tmps s.H with
   | some (t,H)=>some (.normal,⟨t,H⟩)
   | none=>none)
  | .kr ops k ps=>(match gF E.aJ (j5 E.fns (ak E hp n)) s.H.length ops s.tmps (s.H++List.replicate k .iA) with
   | some (t,H,fs)=>if gy fs ps=true then some (.normal,⟨t,H⟩) else none
   | none=>none)
  | .gh pre r post=>(match cN base pre s with
   | some s0=>(match ak E hp n r base s0 with
    | some (.normal,s')=>(match cN base post s' with | some s''=>some (.normal,s'') | none=>none)
    | r=>r)
   | none=>none)
  | .Ay g ps b6 body=>(match gq E.aJ s.tmps g with
   | .fn f cap=>(match kh E.fns (ak E hp n) (some f) (.fI s.H.length::cap) (s.H++[.lp .ready s.tmps.toL ps b6 body]) with
    | some (_,H')=>(match ld H' s.H.length with
     | some e=>some (e,⟨s.tmps,H'.set s.H.length .dead⟩)
     | none=>none)
    | none=>none)
   | _=>none)
theorem tT {rf:RF} {args:List AV} (h1:args.length=rf.nargs) (h2:rf.nargs<=rf.ntmps):Rel (fm rf args) (start rf args):=by
 refine ⟨fun n=>?_,by simp [fm,start];omega,(T.tS _ _).1⟩;simp only [fm,T.get,T.tQ,zaJ,if_true,Nat.sub_zero,start];simp only [List.getD];by_cases h:n < args.length
 ·rw [zap h]
 ·rw [zan (by omega),zav (by omega),List.getElem?_replicate];split<;>rfl
def J4 (ex:EX) (ext:qB):Prop:=∀ c base σ s e σ',vV σ s->ext c base σ=some (e,σ')->∃ s',ex c base s=some (e,s')/\vV σ' s'
theorem QU {ex:EX} {ext:qB} (h:J4 ex ext) {rf:RF} {xs:List AV} {r:AV} (hr:EO ext rf xs=some r):WW ex rf xs=some r/\xs.length=rf.nargs+1:=by
 unfold EO at hr;unfold WW;split at hr
 case h_2=>simp at hr
 rename_i as;split at hr
 case isFalse=>simp at hr
 rename_i hc;refine ⟨?_,by simp [hc.1]⟩;change (if as.length=rf.nargs then _ else none)=some r;rw [if_pos hc.1];split at hr
 ·simp at hr
 ·rename_i e s' hne he;obtain ⟨s2,e1,e2⟩:=h _ _ _ ⟨start rf as,[]⟩ _ _ ⟨tT hc.1 hc.2,rfl⟩ he;rw [e1]
  cases e with
  | exit i=>exact (hne i rfl).elim
  | normal=>dsimp only;rw [<-eD e2,<-e2.2];exact hr
  | ret=>dsimp only;rw [<-eD e2,<-e2.2];exact hr
 ·simp at hr
theorem wJ (fns:Nat->Option RF) {ex:EX} {ext:qB} (h:J4 ex ext):(j5 fns ext).le (mU fns ex):=by
 intro f xs r hr;unfold j5 at hr;unfold mU;split at hr
 case h_2=>simp at hr
 rename_i rf si;rw [si];dsimp only;split at hr
 case isFalse=>
  obtain ⟨h1,h2⟩:=QU h hr;rw [if_neg (by omega)];exact h1
 rename_i hc;rw [if_pos hc.1];split at hr
 ·simp at hr
 ·rename_i e s' hne he;obtain ⟨s2,e1,e2⟩:=h _ _ _ ⟨start rf xs,[]⟩ _ _ ⟨tT hc.1 hc.2,rfl⟩ he;rw [e1]
  cases e with
  | exit i=>exact (hne i rfl).elim
  | normal=>dsimp only;rw [<-eD e2,<-e2.2];exact hr
  | ret=>dsimp only;rw [<-eD e2,<-e2.2];exact hr
 ·simp at hr
theorem FT {ex:EX} {ext:qB} (h:J4 ex ext) {xs:List AV} {H:List Obj} {r:AV×List Obj} (e:vT ext xs H=some r):V7 ex xs H=some r:=by
 unfold vT at e;unfold V7;split at e
 case h_2=>simp at e
 rename_i l xs;dsimp only;split at e
 case h_2=>simp at e
 rename_i t ps b6 body hl;rw [hl];dsimp only;split at e
 case isFalse=>simp at e
 rename_i hlen;rw [if_pos hlen];split at e
 case h_2=>simp at e
 rename_i σ1 h1;obtain ⟨s1,e1,e2⟩:=h _ _ _ ⟨uM ps xs t,H⟩ _ _ ⟨Ad ps xs (Rel.Rs t),rfl⟩ h1;rw [e1];dsimp only;rw [e2.2] at e;split at e
 case h_2=>simp at e
 rename_i H1 F4;rw [F4];dsimp only;split at e
 ·rename_i σ2 h2;obtain ⟨s2,e3,e4⟩:=h _ _ ⟨σ1.tmps,H1⟩ ⟨s1.tmps,H1⟩ _ _ ⟨e2.1,rfl⟩ h2;rw [e3];dsimp only;rw [<-e4.2];exact e
 ·rename_i e' σ2 hne h2;obtain ⟨s2,e3,e4⟩:=h _ _ ⟨σ1.tmps,H1⟩ ⟨s1.tmps,H1⟩ _ _ ⟨e2.1,rfl⟩ h2;rw [e3]
  cases e' with
  | normal=>exact (hne rfl).elim
  | exit i=>dsimp only;rw [<-e4.2];exact e
  | ret=>dsimp only;rw [<-e4.2];exact e
 ·simp at e
theorem Fp (fns:Nat->Option RF) {ex:EX} {ext:qB} (h:J4 ex ext):(kh fns ext).le (Aw fns ex):=by
 intro f xs H r hr;unfold kh at hr;unfold Aw
 cases f with
 | none=>exact FT h hr
 | some f=>
 dsimp only at hr ⊢;split at hr
 case h_2=>simp at hr
 rename_i rf si;rw [si];dsimp only;split at hr
 case isFalse=>simp at hr
 rename_i hc;rw [if_pos hc.1];split at hr
 ·simp at hr
 ·rename_i e s' hne he;obtain ⟨s2,e1,e2⟩:=h _ _ _ ⟨start rf xs,H⟩ _ _ ⟨tT hc.1 hc.2,rfl⟩ he;rw [e1]
  cases e with
  | exit i=>exact (hne i rfl).elim
  | normal=>dsimp only;rw [<-eD e2,<-e2.2];exact hr
  | ret=>dsimp only;rw [<-eD e2,<-e2.2];exact hr
 ·simp at hr
theorem uw (E:Env) (hp:Nat->Bool):∀ n,J4 (exec E hp n) (ak E hp n)
 | 0=>by intro c base σ s e σ' _ h;simp [ak] at h
 | n+1=>by
  have ih:=uw E hp n;intro c base σ s e σ' hr h
  cases c with
  | bad=>simp [ak] at h
  | skip=>simp only [ak,za1,za4] at h;obtain ⟨rfl,rfl⟩:=h;exact ⟨s,rfl,hr⟩
  | ret=>simp only [ak,za1,za4] at h;obtain ⟨rfl,rfl⟩:=h;exact ⟨s,rfl,hr⟩
  | exit i=>simp only [ak,za1,za4] at h;obtain ⟨rfl,rfl⟩:=h;exact ⟨s,rfl,hr⟩
  | seq a b=>
   simp only [ak] at h;simp only [exec];split at h
   ·rename_i σ1 h1;obtain ⟨s1,e1,e2⟩:=ih _ _ _ _ _ _ hr h1;rw [e1];exact ih _ _ _ _ _ _ e2 h
   ·rename_i hne;obtain ⟨s1,e1,e2⟩:=ih _ _ _ _ _ _ hr h;rw [e1]
    cases e with
    | normal=>exact (hne _ h).elim
    | _=>exact ⟨s1,rfl,e2⟩
  | cond x a b=>
   simp only [ak,hr.1.ev] at h;simp only [exec];split at h
   ·rename_i hx;rw [hx];exact ih _ _ _ _ _ _ hr h
   ·rename_i hx;rw [hx];exact ih _ _ _ _ _ _ hr h
   ·simp at h
  | block i b=>
   simp only [ak] at h;simp only [exec];split at h
   ·rename_i j σ1 h1;obtain ⟨s1,e1,e2⟩:=ih _ _ _ _ _ _ hr h1;rw [e1];dsimp only;split at h
    ·rename_i hj;rw [if_pos hj];simp only [za1,za4] at h;obtain ⟨rfl,rfl⟩:=h;exact ⟨s1,rfl,e2⟩
    ·rename_i hj;rw [if_neg hj];simp only [za1,za4] at h;obtain ⟨rfl,rfl⟩:=h;exact ⟨s1,rfl,e2⟩
   ·rename_i hne;obtain ⟨s1,e1,e2⟩:=ih _ _ _ _ _ _ hr h;rw [e1]
    cases e with
    | exit j=>exact (hne _ _ h).elim
    | _=>exact ⟨s1,rfl,e2⟩
  | loop b=>
   simp only [ak] at h;simp only [exec];split at h
   ·rename_i σ1 h1;obtain ⟨s1,e1,e2⟩:=ih _ _ _ _ _ _ hr h1;rw [e1];exact ih _ _ _ _ _ _ e2 h
   ·rename_i hne;obtain ⟨s1,e1,e2⟩:=ih _ _ _ _ _ _ hr h;rw [e1]
    cases e with
    | normal=>exact (hne _ h).elim
    | _=>exact ⟨s1,rfl,e2⟩
  | u6 ops=>
   simp only [ak] at h;simp only [exec];split at h
   case h_2=>simp at h
   rename_i t H h1;simp only [za1,za4] at h;obtain ⟨rfl,rfl⟩:=h;rw [hr.2] at h1;obtain ⟨l',e1,e2⟩:=iF E.aJ hp (wJ E.fns ih) (Fp E.fns ih) ops hr.1 h1;exact ⟨⟨l',H⟩,by rw [e1],e2,rfl⟩
  | draw ops=>
   simp only [ak] at h;simp only [exec];split at h
   case h_2=>simp at h
   rename_i t H h1;simp only [za1,za4] at h;obtain ⟨rfl,rfl⟩:=h;rw [hr.2] at h1;obtain ⟨l',e1,e2⟩:=iF E.aJ (fun _=>false) (wJ E.fns ih) (cH:=fun _ _ _=>none) (fun _ _ _ _ h=>h) ops hr.1 h1;exact ⟨⟨l',H⟩,by rw [e1],e2,rfl⟩
  | jG ops bf=>
   simp only [ak] at h;simp only [exec];split at h
   case h_2=>simp at h
   rename_i t H h1;simp only [za1,za4] at h;obtain ⟨rfl,rfl⟩:=h;rw [hr.2] at h1;obtain ⟨l',e1,e2⟩:=n8 E.aJ hp (wJ E.fns ih) (Fp E.fns ih) bf ops hr.1 h1;exact ⟨⟨l',H⟩,by rw [e1],e2,rfl⟩
  | kr ops k ps=>
   simp only [ak] at h;simp only [exec];split at h
   case h_2=>simp at h
   rename_i t H fs h1;split at h
   case isFalse=>simp at h
   rename_i hps;simp only [za1,za4] at h;obtain ⟨rfl,rfl⟩:=h;rw [hr.2] at h1;obtain ⟨l',e1,e2⟩:=uB E.aJ (wJ E.fns ih) ops hr.1 h1;exact ⟨⟨l',H⟩,by rw [e1];dsimp only;rw [if_pos hps],e2,rfl⟩
  | gh pre r post=>
   simp only [ak] at h;simp only [exec];split at h
   case h_2=>simp at h
   rename_i σ0 h0;obtain ⟨s0,e1,e2⟩:=kP pre hr h0;rw [e1];dsimp only;split at h
   ·rename_i σ1 h1;obtain ⟨s1,e3,e4⟩:=ih _ _ _ _ _ _ e2 h1;rw [e3];dsimp only;split at h
    case h_2=>simp at h
    rename_i σ2 h2;obtain ⟨s2,e5,e6⟩:=kP post e4 h2;rw [e5];dsimp only;simp only [za1,za4] at h;obtain ⟨rfl,rfl⟩:=h;exact ⟨s2,rfl,e6⟩
   ·rename_i hne;obtain ⟨s1,e3,e4⟩:=ih _ _ _ _ _ _ e2 h;rw [e3]
    cases e with
    | normal=>exact (hne _ h).elim
    | _=>exact ⟨s1,rfl,e4⟩
  | Ay g ps b6 body=>
   simp only [ak,hr.1.ev,hr.1.toL] at h;simp only [exec];split at h
   case h_2=>simp at h
   rename_i f cap hx;rw [hx];dsimp only;rw [hr.2] at h;split at h
   case h_2=>simp at h
   rename_i u H' h1;have:=Fp E.fns ih _ _ _ _ h1;rw [this];dsimp only;split at h
   case h_2=>simp at h
   rename_i e' h2;simp only [za1,za4] at h;obtain ⟨rfl,rfl⟩:=h;rw [h2];exact ⟨_,rfl,hr.1,rfl⟩
end Go.Am.As
