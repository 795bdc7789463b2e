/- Typed states: ghost steps. No condition. -/
import Derived.Test.YtafgdbaekppjcaaGreatDoorDnG
set_option linter.unusedSectionVars false
set_option linter.unusedVariables false
set_option linter.unusedSimpArgs false
namespace oZ
open Go hiding Obj mark
open Go.Pl Go.Am Go.Am.As
section
variable {G:Nat->Type} {R:Type}
mutual
def AK (m:Nat):TV G->Option Bool
 | .own i=>some (Nat.blt i m)
 | .po i _=>some (Nat.blt i m)
 | .pe i _ _=>some (Nat.blt i m)
 | .pa i _ _ _=>some (Nat.blt i m)
 | .sa i _ _ _ _=>if Nat.blt i m then some true else none
 | .agg l=>nB m l
 | .bl l=>nB m l
 | .fn _ l=>nB m l
 | .raw v=>some (v.bp m)
 | .bZ l=>if ic l then some true else none
 | .qx es=>if jh es then some true else none
 | _=>some true
def nB (m:Nat):List (TV G)->Option Bool
 | []=>some true
 | x::xs=>(match AK m x with
  | some a=>(match nB m xs with | some b=>some (a&&b) | none=>none)
  | none=>none)
end
theorem qg {n:Nat} {l:List AV} (h:AV.aT 0 l=true):AV.aT n l=true:=gu (zaJ n) l h
theorem pS (i m:Nat):Nat.blt i m=decide (i < m):=by
 cases h:Nat.blt i m with
 | true=>have:i < m:=by simpa [zbS] using h
         simp [this]
 | false=>have:¬ i < m:=by intro hc;rw [show Nat.blt i m=true by simpa [zbS] using hc] at h;cases h
          simp [this]
mutual
theorem GW {g:Ge G} (hg:g.Ok) {ln:Nat->Nat} {m:Nat}:∀ (v:TV G) (b:Bool),AK m v=some b->(v.av g ln).bp m=b
 | .own i,b,h=>by injection h with h;rw [<-h,pS];rfl
 | .po i o,b,h=>by injection h with h;rw [<-h,pS];rfl
 | .pe i n o,b,h=>by injection h with h;rw [<-h,pS];rfl
 | .pa i sz n o,b,h=>by injection h with h;rw [<-h,pS];rfl
 | .sa i lo len _ _,b,h=>by
  rw [AK] at h;split at h
  ·rename_i hc;injection h with h;subst h
   show AV.bp m (if len=0 then .ro [] else .arr i 1 0 lo 1 len)=true;split
   ·rfl
   ·rw [pS] at hc;exact hc
  ·cases h
 | .agg l,b,h=>jP hg l b h
 | .bl l,b,h=>jP hg l b h
 | .fn _ l,b,h=>jP hg l b h
 | .raw v,b,h=>by injection h with h
 | .int _ _,b,h | .bool _,b,h | .str _,b,h | .aL _ _,b,h=>by injection h with h
 | .bZ l,b,h=>by
  rw [AK] at h;split at h
  ·injection h with h
  ·cases h
 | .qx l,b,h=>by
  rw [AK] at h;split at h
  ·injection h with h
  ·cases h
 | .gC t o,b,h=>by injection h with h;subst h;cases o<;>rfl
 | .eg t o,b,h=>by injection h with h;subst h;cases o<;>rfl
 | .arr n t a,b,h=>by injection h with h;subst h;exact qg ((c6 hg (.arr n t)).bp a)
theorem jP {g:Ge G} (hg:g.Ok) {ln:Nat->Nat} {m:Nat}:∀ (l:List (TV G)) (b:Bool),nB m l=some b->AV.aT m (TV.aS g ln l)=b
 | [],b,h=>by injection h with h
 | x::l,b,h=>by
  rw [nB] at h;split at h
  case h_2=>cases h
  rename_i p hp;split at h
  case h_2=>cases h
  rename_i q hq;injection h with h;subst h
  simp only [TV.aS,AV.aT,GW hg x p hp,jP hg l q hq]
end
mutual
theorem CZ {g:Ge G} {ln cj:Nat->Nat} {m:Nat} (hl:∀ j,j < m->cj j=ln j):∀ (v:TV G),AK m v=some true->v.av g cj=v.av g ln
 | .own i,h=>by
  injection h with h;rw [pS,decide_eq_true_eq] at h
  rw [TV.av,TV.av,hl i h]
 | .pe i n o,h=>by
  injection h with h;rw [pS,decide_eq_true_eq] at h
  rw [TV.av,TV.av,hl i h]
 | .agg l,h=>by rw [TV.av,TV.av,jt hl l h]
 | .bl l,h=>by rw [TV.av,TV.av,jt hl l h]
 | .fn _ l,h=>by rw [TV.av,TV.av,jt hl l h]
 | .int _ _,h | .bool _,h | .str _,h | .aL _ _,h | .gC _ _,h | .arr ..,h | .eg ..,h | .raw _,h | .po ..,h | .pa ..,h | .sa ..,h=>rfl
 | .qx es,h=>by
  rw [AK] at h;split at h
  ·rename_i hc;rw [TV.av,TV.av,gi es hc]
  ·cases h
 | .bZ l,h=>by
  rw [AK] at h;split at h
  ·rename_i hc;rw [TV.av,TV.av,eR l hc]
  ·cases h
theorem jt {g:Ge G} {ln cj:Nat->Nat} {m:Nat} (hl:∀ j,j < m->cj j=ln j):∀ (l:List (TV G)),nB m l=some true->TV.aS g cj l=TV.aS g ln l
 | [],_=>rfl
 | x::l,h=>by
  rw [nB] at h;split at h
  case h_2=>cases h
  rename_i p hp;split at h
  case h_2=>cases h
  rename_i q hq;injection h with h
  rw [za0] at h;rw [h.1] at hp;rw [h.2] at hq;rw [TV.aS,TV.aS,CZ hl x hp,jt hl l hq]
end
def o9 (m:Nat):List (Nat×TV G)->Option Bool
 | []=>some true
 | x::xs=>(match AK m x.2 with
  | some a=>(match o9 m xs with | some b=>some (a&&b) | none=>none)
  | none=>none)
theorem nT {g:Ge G} (hg:g.Ok) {ln:Nat->Nat} {m:Nat}:∀ {l:List (Nat×TV G)} {b:Bool},o9 m l=some b->T.lg m (dR g ln l)=b
 | [],b,h=>by injection h with h
 | x::l,b,h=>by
  rw [o9] at h;split at h
  case h_2=>cases h
  rename_i p hp;split at h
  case h_2=>cases h
  rename_i q hq;injection h with h;subst h
  show ((x.2.av g ln).bp m&&T.lg m (dR g ln l))=_;rw [GW hg _ p hp,nT hg hq]
theorem qh {g:Ge G} {ln cj:Nat->Nat} {m:Nat} (hl:∀ j,j < m->cj j=ln j):∀ {l:List (Nat×TV G)},o9 m l=some true->dR g cj l=dR g ln l
 | [],_=>rfl
 | x::l,h=>by
  rw [o9] at h;split at h
  case h_2=>cases h
  rename_i p hp;split at h
  case h_2=>cases h
  rename_i q hq;injection h with h
  rw [za0] at h;rw [h.1] at hp;rw [h.2] at hq;show (x.1,_)::dR g cj l=(x.1,_)::dR g ln l;rw [CZ hl _ hp,qh hl hq]
def pT (m:Nat):List (List (TV G))->Option Bool
 | []=>some true
 | x::xs=>(match nB m x with
  | some a=>(match pT m xs with | some b=>some (a&&b) | none=>none)
  | none=>none)
theorem tw {g:Ge G} (hg:g.Ok) {ln:Nat->Nat} {m:Nat}:∀ {l:List (List (TV G))} {b:Bool},pT m l=some b->AV.bN m (TV.dc g ln l)=b
 | [],b,h=>by injection h with h
 | x::l,b,h=>by
  rw [pT] at h;split at h
  case h_2=>cases h
  rename_i p hp;split at h
  case h_2=>cases h
  rename_i q hq;injection h with h;subst h
  simp only [TV.dc,AV.bN,jP hg x p hp,tw hg hq]
theorem uo {g:Ge G} {ln cj:Nat->Nat} {m:Nat} (hl:∀ j,j < m->cj j=ln j):∀ {l:List (List (TV G))},pT m l=some true->TV.dc g cj l=TV.dc g ln l
 | [],_=>rfl
 | x::l,h=>by
  rw [pT] at h;split at h
  case h_2=>cases h
  rename_i p hp;split at h
  case h_2=>cases h
  rename_i q hq;injection h with h
  rw [za0] at h;rw [h.1] at hp;rw [h.2] at hq;rw [TV.dc,TV.dc,jt hl _ hp,uo hl hq]
def hN (m:Nat) (fb:Bool):List (TO G)->Option Bool
 | []=>some true
 | .box l::r=>(match nB m l with
  | some a=>(match hN m fb r with | some b=>some (a&&b) | none=>none)
  | none=>none)
 | .cX _ _ es::r=>if jJ es&&jh es then hN m fb r else (match pT m es with
  | some a=>(match hN m fb r with | some b=>some (a&&b) | none=>none)
  | none=>none)
 | .mix ..::r=>none
 | .lp ..::r=>if fb then hN m fb r else none
 | _::r=>hN m fb r
theorem Mx {g:Ge G} (hg:g.Ok) {ln:Nat->Nat} {m:Nat} {es:List (List (TV G))} (h:jJ es=true):AV.bN m (TV.dc g ln es)=true:=by
 have h0:=fZ hg ln es h;have:∀ {l:List (List AV)},AV.bN 0 l=true->AV.bN m l=true:=by
  intro l;induction l with
  | nil=>intro _;rfl
  | cons x l ih=>
   intro h;simp only [AV.bN,za0] at h ⊢;exact ⟨qg h.1,ih h.2⟩
 exact this h0
theorem My {m:Nat} {τ:T} (h:T.lg m τ.l=true):AV.aT m τ.toL=true:=by
 have h1:∀ (l:List (Nat×AV)),T.lg m l=true->∀ i,(T.fj l i).bp m=true:=by
  intro l;induction l with
  | nil=>intro _ i;simp [T.fj,AV.bp]
  | cons x r ih=>
   obtain ⟨k,v⟩:=x;intro h;simp only [T.lg,za0] at h;intro i;simp only [T.fj];by_cases hk:k=i
   ·simp [hk,h.1]
   ·simp [hk,ih h.2 i]
 rw [zC];intro i;rw [zbf];by_cases hi:i < τ.toL.length
 ·rw [za2 hi];simp only [T.toL,zax,zaX,zar];exact h1 _ h _
 ·rw [zan (by omega)];simp [AV.bp]
theorem fF {g:Ge G} (hg:g.Ok) {ln:Nat->Nat} {F:List (T×C3)} {m:Nat} {fb:Bool} (hF:fb=true->∀ f∈F,T.lg m f.1.l=true):∀ {l:List (TO G)} {b:Bool},hN m fb l=some b->bW m (l.map (TO.av g ln F))=b
 | [],b,h=>by injection h with h
 | .box l::r,b,h=>by
  rw [hN] at h;split at h
  case h_2=>cases h
  rename_i p hp;split at h
  case h_2=>cases h
  rename_i q hq;injection h with h;subst h
  show (AV.bN m [_]&&bW m (r.map _))=_;rw [fF hg hF hq];simp only [AV.bN,jP hg _ p hp,Bool.and_true]
 | .cX fl sz es::r,b,h=>by
  rw [hN] at h;split at h
  ·rename_i hc;rw [za0] at hc;show (AV.bN m (TV.dc g ln es)&&bW m (r.map _))=_;rw [fF hg hF h,Mx hg hc.1,zaN]
  ·split at h
   case h_2=>cases h
   rename_i p hp;split at h
   case h_2=>cases h
   rename_i q hq;injection h with h;subst h
   show (AV.bN m (TV.dc g ln es)&&bW m (r.map _))=_;rw [fF hg hF hq,tw hg hp]
 | .aL fl t l::r,b,h=>by
  have h:hN m fb r=some b:=h;show (AV.bN m (l.map (enc g t))&&bW m (r.map _))=_;rw [fF hg hF h,qi (c6 hg t).bp m l,zaN]
 | .arr n t a::r,b,h=>by
  have h:hN m fb r=some b:=h;show (AV.bN m [(List.map (enc g t) a.1).flatten]&&bW m (r.map _))=_;rw [fF hg hF h];simp only [AV.bN,Bool.and_true];have e:AV.aT m (List.map (enc g t) a.1).flatten=true:=qg ((c6 hg (.arr n t)).bp a);exact (congrArg (·&&b) e).trans (zaN b)
 | .dead::r,b,h=>by
  have h:hN m fb r=some b:=h;show (true&&bW m (r.map _))=_;rw [fF hg hF h,zaN]
 | .iA::r,b,h=>by
  have h:hN m fb r=some b:=h;show (true&&bW m (r.map _))=_;rw [fF hg hF h,zaN]
 | .yE ..::r,b,h=>by
  have h:hN m fb r=some b:=h;show (true&&bW m (r.map _))=_;rw [fF hg hF h,zaN]
 | .mT l::r,b,h=>by
  have h:hN m fb r=some b:=h;show (AV.EM m (l.map fun p=>(.str p.1,.int .i64 p.2))&&bW m (r.map _))=_;rw [fF hg hF h];have:∀ l:List (List UInt8×Int),AV.EM m (l.map fun p=>(.str p.1,.int .i64 p.2))=true:=by
   intro l;induction l with
   | nil=>rfl
   | cons x l ih=>simp only [za5,AV.EM,AV.bp,ih,zbO]
  rw [this,zaN]
 | .lp ls fi::r,b,h=>by
  have h:(if fb then hN m fb r else none)=some b:=h;split at h
  case isFalse=>cases h
  rename_i hb;show (Obj.bp m (TO.av g ln F (.lp ls fi))&&bW m (r.map _))=_;rw [fF hg hF h];have:Obj.bp m (TO.av g ln F (.lp ls fi))=true:=by
   show Obj.bp m (match F[fi]? with | some f=> .lp ls f.1.toL f.2.1 f.2.2.1 f.2.2.2 | none=> .dead)=true
   cases e:F[fi]? with
   | none=>rfl
   | some f=>exact My (hF hb f (List.mem_of_getElem? e))
  rw [this,zaN]
 | .mix ..::r,b,h=>by cases h
theorem eu {g:Ge G} {ln cj:Nat->Nat} {F:List (T×C3)} {m:Nat} {fb:Bool} (hl:∀ j,j < m->cj j=ln j):∀ {l:List (TO G)},hN m fb l=some true->l.map (TO.av g cj F)=l.map (TO.av g ln F)
 | [],_=>rfl
 | .box l::r,h=>by
  rw [hN] at h;split at h
  case h_2=>cases h
  rename_i p hp;split at h
  case h_2=>cases h
  rename_i q hq;injection h with h
  rw [za0] at h;rw [h.1] at hp;rw [h.2] at hq;show Obj.live _ _ [_]::r.map _=Obj.live _ _ [_]::r.map _;rw [jt hl _ hp,eu hl hq]
 | .cX fl sz es::r,h=>by
  rw [hN] at h;split at h
  ·rename_i hc;rw [za0] at hc;show Obj.live _ _ _::r.map _=Obj.live _ _ _::r.map _;rw [gi es hc.2,eu hl h]
  ·split at h
   case h_2=>cases h
   rename_i p hp;split at h
   case h_2=>cases h
   rename_i q hq;injection h with h
   rw [za0] at h;rw [h.1] at hp;rw [h.2] at hq;show Obj.live _ _ _::r.map _=Obj.live _ _ _::r.map _;rw [uo hl hp,eu hl hq]
 | .aL fl t l::r,h=>by
  have h:hN m fb r=some true:=h;show _::r.map _=_::r.map _;rw [eu hl h];rfl
 | .arr n t a::r,h=>by
  have h:hN m fb r=some true:=h;show _::r.map _=_::r.map _;rw [eu hl h];rfl
 | .dead::r,h=>by
  have h:hN m fb r=some true:=h;show _::r.map _=_::r.map _;rw [eu hl h];rfl
 | .iA::r,h=>by
  have h:hN m fb r=some true:=h;show _::r.map _=_::r.map _;rw [eu hl h];rfl
 | .yE ..::r,h=>by
  have h:hN m fb r=some true:=h;show _::r.map _=_::r.map _;rw [eu hl h];rfl
 | .mT ..::r,h=>by
  have h:hN m fb r=some true:=h;show _::r.map _=_::r.map _;rw [eu hl h];rfl
 | .lp ..::r,h=>by
  have h:(if fb then hN m fb r else none)=some true:=h;split at h
  case isFalse=>cases h
  show _::r.map _=_::r.map _;rw [eu hl h];rfl
 | .mix ..::r,h=>by cases h
def Ca (m:Nat):List (Nat×List (Nat×TV G)×C3)->Bool
 | []=>true
 | f::r=>(match o9 m f.2.1 with | some b=>b | none=>false)&&Ca m r
theorem zS {g:Ge G} {ln cj:Nat->Nat} {m:Nat} (hl:∀ j,j < m->cj j=ln j):∀ {l:List (Nat×List (Nat×TV G)×C3)},Ca m l=true->(l.map fun f=>((⟨f.1,dR g cj f.2.1⟩:T),f.2.2))=l.map fun f=>(⟨f.1,dR g ln f.2.1⟩,f.2.2)
 | [],_=>rfl
 | f::r,h=>by
  rw [Ca,za0] at h;have h1:o9 m f.2.1=some true:=by
   have:=h.1;split at this
   ·rename_i b hb;rw [hb,this]
   ·cases this
  rw [za5,za5,zS hl h.2,qh hl h1]
theorem vi {g:Ge G} (hg:g.Ok) {ln:Nat->Nat} {m:Nat}:∀ {l:List (Nat×List (Nat×TV G)×C3)},Ca m l=true->∀ f∈(l.map fun f=>((⟨f.1,dR g ln f.2.1⟩:T),f.2.2)),T.lg m f.1.l=true
 | [],_,_,hf=>by cases hf
 | f::r,h,x,hx=>by
  rw [Ca,za0] at h;have h1:o9 m f.2.1=some true:=by
   have:=h.1;split at this
   ·rename_i b hb;rw [hb,this]
   ·cases this
  rcases zam.mp hx with hx | hx
  ·subst hx;exact nT hg h1
  ·exact vi hg h.2 x hx
def sK:TV G->Bool
 | .own _=>false
 | .sa ..=>false
 | .raw v=>(match v with | .own ..=>false | _=>true)
 | _=>true
theorem lP {g:Ge G} {ln:Nat->Nat} {v:TV G} (h:sK v=true):∀ id e o l,v.av g ln≠ .own id e o l:=by
 intro id e o l hv
 cases v with
 | own i=>cases h
 | raw a=>simp only [TV.av] at hv;subst hv;cases h
 | gC t o=>cases o<;>cases hv
 | eg t o=>cases o<;>cases hv
 | sa i lo len=>cases h
 | _=>cases hv
def wC:TV G->Bool
 | .po .. | .pe .. | .pa ..=>false
 | .raw v=>(match v with | .aA ..=>false | _=>true)
 | _=>true
theorem oC {g:Ge G} {ln:Nat->Nat} {v:TV G} (h:wC v=true):∀ id e i o,v.av g ln≠ .aA id e i o:=by
 intro id e i o hv
 cases v with
 | po i o=>cases h
 | pe i n o=>cases h
 | pa i s n o=>cases h
 | raw a=>simp only [TV.av] at hv;subst hv;cases h
 | gC t o=>cases o<;>cases hv
 | eg t o=>cases o<;>cases hv
 | sa i lo len=>simp only [TV.av] at hv;split at hv<;>cases hv
 | _=>cases hv
def notNil:TV G->Bool
 | .gC ..=>false
 | .raw v=>(match v with | .bD=>false | _=>true)
 | _=>true
theorem zT {g:Ge G} {ln:Nat->Nat} {v:TV G} (h:notNil v=true):v.av g ln≠ .bD:=by
 intro hv
 cases v with
 | gC t o=>cases h
 | eg t o=>cases o<;>cases hv
 | raw a=>simp only [TV.av] at hv;subst hv;cases h
 | sa i lo len=>simp only [TV.av] at hv;split at hv<;>cases hv
 | _=>cases hv
def Ty.wk:Ty->Bool
 | .kq _=>false
 | .arr _ t=>t.wk
 | _=>true
end
def Ge.Wk {G:Nat->Type} (g:Ge G):Prop:=∀ i x,(g.enc i x).map AV.HU=g.enc i x
section
variable {G:Nat->Type} {R:Type}
theorem wD {g:Ge G} (hw:g.Wk):∀ {t:Ty} (x:t.D G),t.wk=true->(enc g t x).map AV.HU=enc g t x
 | .int _,_,_ | .bool,_,_ | .str,_,_ | .list _,_,_=>rfl
 | .kq _,_,h=>by cases h
 | .ptr _,_,_=>rfl
 | .eg _,o,_=>by cases o<;>rfl
 | .st i,x,_=>hw i x
 | .arr n t,a,h=>by
  show List.map AV.HU (List.map (enc g t) a.1).flatten=(List.map (enc g t) a.1).flatten;induction a.1 with
  | nil=>rfl
  | cons x l ih=>rw [za5,zaS,zal,wD hw (t:=t) x h,ih]
def wkV:TV G->Option (TV G)
 | .raw v=>(match v with | .bD=>some (.qx []) | v=>some (.raw v.wk))
 | .arr n t a=>if t.wk then some (.arr n t a) else none
 | .agg l=>some (.agg (l.map EI))
 | .bl l=>none
 | .gC t o=>some (.aL t (o.getD []))
 | v=>some v
theorem Uz {g:Ge G} (hw:g.Wk) {ln:Nat->Nat} {v w:TV G} (h:wkV v=some w):w.av g ln=(v.av g ln).wk:=by
 cases v with
 | raw a=>
  unfold wkV at h;dsimp only at h;split at h
  ·injection h with h;subst h;rfl
  ·injection h with h;subst h;rfl
 | arr n t a=>
  unfold wkV at h;dsimp only at h;split at h
  case isFalse=>cases h
  rename_i hc;injection h with h;subst h
  show AV.agg _=AV.agg (List.map AV.HU (List.map (enc g t) a.1).flatten);have:=wD hw (t:= .arr n t) a hc;exact congrArg AV.agg this.symm
 | agg l=>injection h with h;subst h;show AV.agg _=AV.agg _;rw [vf]
 | bl l=>cases h
 | gC t o=>injection h with h;subst h;cases o<;>rfl
 | eg t o=>injection h with h;subst h;cases o<;>rfl
 | sa i lo len=>injection h with h;subst h;show (if len=0 then AV.ro [] else .arr i 1 0 lo 1 len)=AV.wk (if len=0 then AV.ro [] else .arr i 1 0 lo 1 len);split<;>rfl
 | _=>injection h with h;subst h;rfl
def WS (g:Ge G):TO G->Option (TO G)
 | .box l=>some (.box (l.map EI))
 | .aL fl t l=>if t.wk then some (.aL fl t l) else none
 | .cX fl sz es=>some (.cX fl sz (es.map (List.map EI)))
 | .mix fl t l es=>if t.wk then (match o6 g t (es.map (List.map EI)) with | some m=>some (.aL fl t (l++m)) | none=>none) else none
 | .arr n t a=>if t.wk then some (.arr n t a) else none
 | .dead=>some .dead
 | _=>none
theorem UA {g:Ge G} (hg:g.Ok) (hw:g.Wk) {ln:Nat->Nat} {F:List (T×C3)} {o o':TO G} (h:WS g o=some o'):o'.av g ln F=(o.av g ln F).wk/\o'.len=o.len:=by
 cases o with
 | box l=>
  injection h with h;subst h
  refine ⟨?_,rfl⟩;show Obj.live _ _ [_]=Obj.live _ _ [_];rw [vf,zah]
 | aL fl t l=>
  unfold WS at h;dsimp only at h;split at h
  case isFalse=>cases h
  rename_i hc;injection h with h;subst h
  refine ⟨?_,rfl⟩;show Obj.live _ _ _=Obj.live _ _ _;rw [zb];congr 1;exact (zaI fun x _=>wD hw x hc).symm
 | cX fl sz es=>
  injection h with h;subst h
  refine ⟨?_,by simp [TO.len]⟩;show Obj.live _ _ _=Obj.live _ _ _;rw [br,br,zb,zb];congr 1;exact zaI fun x _=>vf x
 | mix fl t l es=>
  unfold WS at h;dsimp only at h;split at h
  case isFalse=>cases h
  rename_i hc;split at h
  case h_2=>cases h
  rename_i m hm;injection h with h;subst h
  obtain ⟨h1,h2⟩:=iN hg ln hm;refine ⟨?_,by simp [TO.len] at h2 ⊢;omega⟩;show Obj.live _ _ _=Obj.live _ _ _;rw [zal,zal,zb];congr 1;congr 1
  ·exact (zaI fun x _=>wD hw x hc).symm
  ·rw [<-h1,br,br,zb,zb];exact zaI fun x _=>vf x
 | arr n t a=>
  unfold WS at h;dsimp only at h;split at h
  case isFalse=>cases h
  rename_i hc;injection h with h;subst h
  refine ⟨?_,rfl⟩;show Obj.live _ _ [_]=Obj.live _ _ [_];have:=wD hw (t:= .arr n t) a hc;congr 2;exact this.symm
 | dead=>injection h with h;subst h;exact ⟨rfl,rfl⟩
 | _=>cases h
def Io (g:Ge G) (s:DS G) (id:Nat):Option (DS G):=match s.H[id]? with
 | some o=>(match WS g o with | some o'=>some (s.iT id o') | none=>none)
 | none=>none
def To:TV G->Bool
 | .sa ..=>true
 | _=>false
theorem GX {g:Ge G} {ln:Nat->Nat} {v:TV G} (h:To v=true):∀ id e o l,v.av g ln≠ .own id e o l:=by
 intro id e o l hv
 cases v with
 | sa i lo len=>simp only [TV.av] at hv;split at hv<;>cases hv
 | _=>cases h
def Tp (g:Ge G) (s:DS G) (v:TV G):Option (DS G):=match v with
 | .own id=>Io g s id
 | .po id _=>Io g s id
 | .pe id _ _=>Io g s id
 | .pa id _ _ _=>Io g s id
 | v=>if (sK v||To v)&&wC v then some s else none
def OP (g:Ge G):List Nat->DS G->Option (DS G)
 | [],s=>some s
 | t::ts,s=>(match wkV (s.get t) with
  | some w=>(match Tp g s (s.get t) with
   | some s1=>OP g ts (s1.put t w)
   | none=>none)
  | none=>none)
theorem vj {g:Ge G} (hg:g.Ok) (hw:g.Wk) {s s':DS G} {id:Nat} (h:Io g s id=some s'):(match (s.Hv g)[id]? with | some o=>(s.Hv g).set id o.wk | none=>s.Hv g)=s'.Hv g/\s'.ln=s.ln/\s'.tm g=s.tm g/\s'.FR g=s.FR g:=by
 unfold Io at h;split at h
 case h_2=>cases h
 rename_i o ho;split at h
 case h_2=>cases h
 rename_i o' ho';injection h with h;subst h
 obtain ⟨k1,k2⟩:=UA (g:=g) (ln:=s.ln) (F:=s.FR g) hg hw ho';obtain ⟨e1,e2,e3,e4⟩:=fG (g:=g) (o':=o') ho k2;refine ⟨?_,e1,e2,e3⟩;rw [bw ho,e4,k1]
theorem PG {g:Ge G} (hg:g.Ok) (hw:g.Wk) {s s':DS G} {v:TV G} (h:Tp g s v=some s'):NR (s.Hv g) (v.av g s.ln)=s'.Hv g/\s'.ln=s.ln/\s'.tm g=s.tm g/\s'.FR g=s.FR g:=by
 have other:∀ {v:TV G},(∀ id e o l,v.av g s.ln≠ .own id e o l)->(∀ id e i o,v.av g s.ln≠ .aA id e i o)->NR (s.Hv g) (v.av g s.ln)=s.Hv g:=by
  intro v h1 h2;unfold NR;split
  ·rename_i e;exact (h2 _ _ _ _ e).elim
  ·rename_i e;exact (h1 _ _ _ _ e).elim
  ·rfl
 unfold Tp at h;split at h
 ·exact vj hg hw h
 ·exact vj hg hw h
 ·exact vj hg hw h
 ·exact vj hg hw h
 ·split at h
  case isFalse=>cases h
  rename_i hn;rw [za0] at hn;injection h with h;subst h
  refine ⟨other ?_ (oC hn.2),rfl,rfl,rfl⟩;rcases (zat _ _).mp hn.1 with hn | hn
  ·exact lP hn
  ·exact GX hn
theorem GY {g:Ge G} (hg:g.Ok) (hw:g.Wk):∀ {ts:List Nat} {s s':DS G},OP g ts s=some s'->vO ts (s.st g)=s'.st g/\s'.FR g=s.FR g
 | [],s,s',h=>by injection h with h;subst h;exact ⟨rfl,rfl⟩
 | t::ts,s,s',h=>by
  rw [OP] at h;split at h
  case h_2=>cases h
  rename_i w hw';split at h
  case h_2=>cases h
  rename_i s1 h1;obtain ⟨k1,k2,k3,k4⟩:=PG hg hw h1;obtain ⟨e1,e2⟩:=GY hg hw h;refine ⟨?_,by rw [e2,DS.sL,k4]⟩;rw [vO,<-e1];congr 1;show (⟨_,_⟩:ST)=⟨(s1.put t w).tm g,(s1.put t w).Hv g⟩;rw [DS.sM,DS.wE,k3,k2,<-k1,Uz hw hw',<-DS.ie];rfl
def DS.Cl (s:DS G):List Nat->DS G
 | []=>s
 | d::ds=>DS.Cl ⟨s.sz,EN s.sl d,s.H,s.fr⟩ ds
theorem GZ {g:Ge G}:∀ {l:List Nat} {s:DS G},(s.Cl l).st g=⟨T.fO l (s.tm g),s.Hv g⟩/\(s.Cl l).FR g=s.FR g
 | [],s=>⟨rfl,rfl⟩
 | d::l,s=>by
  rw [DS.Cl];obtain ⟨e1,e2⟩:=GZ (g:=g) (l:=l) (s:=⟨s.sz,EN s.sl d,s.H,s.fr⟩);refine ⟨?_,e2⟩;rw [e1,T.fO];show (⟨T.fO l ⟨s.sz,dR g s.ln (EN s.sl d)⟩,_⟩:ST)=⟨T.fO l ⟨s.sz,T.m6 (dR g s.ln s.sl) d⟩,_⟩;rw [G1];rfl
def DS.AL (s:DS G) (m:Nat):DS G:=⟨s.sz,s.sl,s.H.take m,s.fr⟩
def Tq (s:DS G) (t:Nat):Option (DS G):=match s.get t with
 | .own id=>(match s.H[id]? with
  | some (.aL fl u l)=>if fl.free then some ((s.ec id .dead).put t (.aL u l)) else some s
  | some (.cX fl sz es)=>if fl.free then (if jJ es&&jh es then some ((s.ec id .dead).put t (.qx es)) else (match pT 0 es with | some false=>some s | _=>none)) else some s
  | _=>none)
 | v=>if sK v||To v then some s else none
def Kl (s:DS G) (t:Nat):Option (DS G):=match s.get t with
 | .po id o=>if Nat.beq o 0 then (match s.H[id]? with
  | some (.box cs)=>if TV.mM cs&&ic cs then some ((s.iT id .dead).put t (.bZ cs)) else (match nB 0 cs with | some false=>some s | _=>none)
  | _=>none) else some s
 | v=>if wC v then some s else none
def Gt (s:DS G) (id j o n:Nat) (v:TV G):Option (DS G):=match (s.ec j .dead).H[id]? with
 | some (.box cs')=>if Nat.beq cs'.length n then some ((s.ec j .dead).iT id (.box (cs'.set o v))) else none
 | _=>none
def Km (s:DS G) (t off:Nat):Option (DS G):=match s.get t with
 | .po id o=>(match s.H[id]? with
  | some (.box cs)=>(match cs[o+off]? with
   | some (.own j)=>if Nat.beq j id then none else (match s.H[j]? with
    | some (.aL fl u l)=>if fl.free then Gt s id j (o+off) cs.length (.aL u l) else some s
    | some (.cX fl sz es)=>if fl.free&&(jJ es&&jh es) then Gt s id j (o+off) cs.length (.qx es) else none
    | _=>none)
   | some v=>if sK v then some s else none
   | none=>none)
  | _=>none)
 | v=>if wC v then some s else none
def Ko (s:DS G) (t sz:Nat):Option (DS G):=match s.get t with
 | .raw v=>(match v with
  | .bD=>if s.fits s.H.length (.cX .nil sz []) then some ((s.eE s.H.length (.cX .nil sz [])).put t (.own s.H.length)) else none
  | _=>some s)
 | v=>if notNil v then some s else none
def E7 (s:DS G) (t off sz:Nat):Option (DS G):=match s.get t with
 | .po id o=>(match s.H[id]? with
  | some (.box cs)=>(match cs[o+off]? with
   | some (.raw v)=>(match v with
    | .bD=>if s.fits s.H.length (.cX .nil sz []) then some ((s.eE s.H.length (.cX .nil sz [])).iT id (.box (cs.set (o+off) (.own s.H.length)))) else none
    | _=>some s)
   | some v=>if notNil v then some s else none
   | none=>none)
  | _=>none)
 | v=>if wC v then some s else none
def E8 (s:DS G) (m:Nat):Option (DS G):=
 if Nat.blt m s.H.length then
  (match o9 m s.sl with
   | some true=>(match hN m (Ca m s.fr) (s.H.take m) with
    | some true=>if Ca m s.fr then some (s.AL m) else none
    | some false=>some s
    | none=>none)
   | some false=>some s
   | none=>none)
 else some s
def JP (g:Ge G) (b:Nat) (s:DS G):GA->Option (DS G)
 | .kill l=>some (s.Cl l)
 | .wk l=>OP g l s
 | .kn n=>E8 s (b+n)
 | .ua t=>Tq s t
 | .nk t=>Kl s t
 | .yR t off=>Km s t off
 | .prom t sz=>Ko s t sz
 | .o8 t off sz=>E7 s t off sz
 | .sh t=>if sK (s.get t) then some s else none
 | .res t=>if sK (s.get t) then some s else none
 | .cut _=>none
def Eo (g:Ge G) (b:Nat):List GA->DS G->Option (DS G)
 | [],s=>some s
 | a::r,s=>(match JP g b s a with | some s'=>Eo g b r s' | none=>none)
theorem Bl {g:Ge G} {s:DS G} {id:Nat} {o o':TO G} (hid:s.H[id]?=some o) (t:Nat) (v:TV G):((s.ec id o').put t v).st g=⟨(s.tm g).put t (v.av g (s.ec id o').ln),(s.Hv g).set id (o'.av g (s.ec id o').ln (s.FR g))⟩/\((s.ec id o').put t v).FR g=s.FR g:=by
 obtain ⟨e1,e2,e3,e4⟩:=qY (g:=g) (o':=o') hid;refine ⟨?_,by rw [DS.sL,e3]⟩;show (⟨DS.tm g _,DS.Hv g _⟩:ST)=_;rw [DS.sM,DS.wE,e2,e4]
theorem PI {g:Ge G} (hg:g.Ok) {s s':DS G} {t:Nat} (h:Tq s t=some s'):aG 0 (s.st g) (.ua t)=some (s'.st g)/\s'.FR g=s.FR g:=by
 have aP:(s.st g).tmps.get t=(s.get t).av g s.ln:=DS.ie g s t;have other:∀ {v:TV G},(s.get t)=v->(∀ id e o l,v.av g s.ln≠ .own id e o l)->aG 0 (s.st g) (.ua t)=some (s.st g):=by
  intro v hv hn;have:pI t (s.st g)=some (s.st g):=by
   unfold pI;rw [aP,hv];split
   ·rename_i e;exact (hn _ _ _ _ e).elim
   ·rfl
  simp only [aG,this]
 unfold Tq at h;split at h
 ·rename_i id hv;rw [hv] at aP;split at h
  ·rename_i fl u l hid;have hH:=bw (g:=g) hid;have hn:cD (s.Hv g) id=fl:=by unfold cD;rw [hH];rfl
   have hfz:pI t (s.st g)=if fl.free=true then some ⟨(s.tm g).put t (.ro (l.map (enc g u))),(s.Hv g).set id .dead⟩ else none:=by
    unfold pI;rw [aP];show (match aH (s.Hv g) id with | some (_,es)=>_ | none=>none)=_;simp only [aH,hH,TO.av,lB hid,zah,zaQ];rw [zad (by simp),show cD (s.st g).H id=fl from hn];by_cases hf:fl.free=true
    ·rw [if_pos ⟨trivial,gw (c6 hg u).bp l,hf⟩,if_pos hf];rfl
    ·rw [if_neg (fun h=>hf h.2.2),if_neg hf]
   split at h
   ·rename_i hf;injection h with h;subst h
    obtain ⟨e1,e2⟩:=Bl (g:=g) (o':= .dead) hid t (.aL u l);refine ⟨?_,e2⟩;rw [aG,hfz,if_pos hf,e1];rfl
   ·rename_i hf;injection h with h;subst h
    refine ⟨?_,rfl⟩;rw [aG,hfz,if_neg hf]
  ·rename_i fl sz es hid;have hH:=bw (g:=g) hid;have hn:cD (s.Hv g) id=fl:=by unfold cD;rw [hH];rfl
   have hl:s.ln id=es.length:=by unfold DS.ln kg;rw [hid];rfl
   have hfz:jJ es=true\/fl.free=false->pI t (s.st g)=if fl.free=true then some ⟨(s.tm g).put t (.ro (TV.dc g s.ln es)),(s.Hv g).set id .dead⟩ else none:=by
    intro hfr;unfold pI;rw [aP];show (match aH (s.Hv g) id with | some (_,es)=>_ | none=>none)=_;have hle:(TV.dc g s.ln es).length=es.length:=by rw [br,zah]
    simp only [aH,hH,TO.av,hl,hle,zaQ];rw [zad (by rw [hle];exact za6 _),show cD (s.st g).H id=fl from hn];by_cases hf:fl.free=true
    ·rw [if_pos ⟨trivial,fZ hg s.ln es (by rcases hfr with h | h;exact h;rw [hf] at h;cases h),hf⟩,if_pos hf];rfl
    ·rw [if_neg (fun h=>hf h.2.2),if_neg hf]
   split at h
   ·rename_i hf;split at h
    ·rename_i hc;rw [za0] at hc;injection h with h;subst h
     obtain ⟨e1,e2⟩:=Bl (g:=g) (o':= .dead) hid t (.qx es);refine ⟨?_,e2⟩;rw [aG,hfz (.inl hc.1),if_pos hf,e1];show some (⟨_,_⟩:ST)=some ⟨(s.tm g).put t (.ro _),_⟩;rw [gi es hc.2];rfl
    ·split at h
     case h_2=>cases h
     rename_i hb;injection h with h;subst h
     refine ⟨?_,rfl⟩;have hle:(TV.dc g s.ln es).length=es.length:=by rw [br,zah]
     have:pI t (s.st g)=none:=by
      unfold pI;rw [aP];show (match aH (s.Hv g) id with | some (_,es)=>_ | none=>none)=_;simp only [aH,hH,TO.av,hl,hle,zaQ];rw [zad (by rw [hle];exact za6 _),if_neg];intro hc;rw [tw hg hb] at hc
      cases hc.2.1
     rw [aG,this]
   ·rename_i hf;injection h with h;subst h
    refine ⟨?_,rfl⟩;rw [aG,hfz (.inr (by simpa using hf)),if_neg hf]
  ·cases h
 ·rename_i v hv;split at h
  case isFalse=>cases h
  rename_i hc;injection h with h;subst h
  refine ⟨other rfl ?_,rfl⟩;rcases (zat _ _).mp hc with hc | hc
  ·exact lP hc
  ·exact GX hc
theorem ID (b:Nat) (s:ST) (t:Nat):aG b s (.ua t)=aG 0 s (.ua t):=rfl
theorem Mz {g:Ge G} (hg:g.Ok) {s s':DS G} {b t:Nat} (h:Kl s t=some s'):aG b (s.st g) (.nk t)=some (s'.st g)/\s'.FR g=s.FR g:=by
 have aP:(s.st g).tmps.get t=(s.get t).av g s.ln:=DS.ie g s t;have other:(∀ id,(s.get t).av g s.ln≠ .aA id 1 0 0)->aG b (s.st g) (.nk t)=some (s.st g):=by
  intro hn;have:lq t (s.st g)=none:=by
   unfold lq;rw [aP];split
   ·rename_i e;exact (hn _ e).elim
   ·rfl
  simp only [aG,this]
 unfold Kl at h;split at h
 ·rename_i id o hv;split at h
  ·rename_i ho;have ho:=za3 ho;subst ho;split at h
   case h_2=>cases h
   rename_i cs hid;have hH:=bw (g:=g) hid;split at h
   case isFalse=>
    split at h
    case h_2=>cases h
    rename_i hb;injection h with h;subst h
    have:lq t (s.st g)=none:=by
     unfold lq;rw [aP,hv];show (match (s.Hv g)[id]? with | some (.live .norm _ [cs])=>_ | _=>none)=_;rw [hH];show (if AV.aT 0 (TV.aS g s.ln cs)=true then _ else none)=_;rw [if_neg (by rw [jP hg cs false hb];exact fun e=>(nomatch e))]
    exact ⟨by simp only [aG,this],rfl⟩
   rename_i hc;rw [za0] at hc;injection h with h;subst h
   obtain ⟨k1,k2,k3,k4⟩:=fG (g:=g) (o':= .dead) hid rfl;have:lq t (s.st g)=some ⟨(s.tm g).put t (.bZ (TV.aS g s.ln cs)),(s.Hv g).set id .dead⟩:=by
    unfold lq;rw [aP,hv];show (match (s.Hv g)[id]? with | some (.live .norm _ [cs])=>_ | _=>none)=_;rw [hH];show (if AV.aT 0 (TV.aS g s.ln cs)=true then _ else none)=_;rw [if_pos (eP hg s.ln cs hc.1)];rfl
   refine ⟨?_,by rw [DS.sL,k3]⟩;rw [aG,this];show some (⟨_,_⟩:ST)=some ⟨DS.tm g _,DS.Hv g _⟩;rw [DS.sM,DS.wE,k2,k4,k1];rfl
  ·rename_i ho;injection h with h;subst h
   refine ⟨other ?_,rfl⟩;intro id' e;rw [hv] at e;injection e with _ _ _ e;subst e
   exact ho rfl
 ·split at h
  case isFalse=>cases h
  rename_i hn;injection h with h;subst h
  exact ⟨other (fun id=>oC hn id 1 0 0),rfl⟩
theorem MA {g:Ge G} (hg:g.Ok) {s s':DS G} {b t sz:Nat} (h:Ko s t sz=some s'):aG b (s.st g) (.prom t sz)=some (s'.st g)/\s'.FR g=s.FR g:=by
 have aP:(s.st g).tmps.get t=(s.get t).av g s.ln:=DS.ie g s t;have other:(s.get t).av g s.ln≠ .bD->aG b (s.st g) (.prom t sz)=some (s.st g):=by
  intro hn;rw [aG,aP];split
  ·rename_i e;exact (hn e).elim
  ·rfl
 unfold Ko at h;split at h
 ·rename_i v hv;split at h
  ·split at h
   case isFalse=>cases h
   rename_i hf;injection h with h;subst h
   obtain ⟨k1,k2,k3⟩:=fV (g:=g) hf;have AA:=ju (kD hf) (TO.cX .nil sz ([]:List (List (TV G))));refine ⟨?_,by rw [DS.sL,k2]⟩;rw [aG,aP,hv];show some (⟨(s.tm g).put t (.own (s.Hv g).length 0 0 0),s.Hv g++[.live .nil sz []]⟩:ST)=some ⟨DS.tm g _,DS.Hv g _⟩;rw [DS.sM,DS.wE,k1,k3,gH];show _=some (⟨(s.tm g).put t (.own s.H.length (DS.ln _ s.H.length) 0 (DS.ln _ s.H.length)),_⟩:ST);rw [AA];unfold putObj;rw [gH,if_neg (zc _)];rfl
  ·rename_i hne;injection h with h;subst h
   refine ⟨other ?_,rfl⟩;rw [hv];exact hne
 ·split at h
  case isFalse=>cases h
  rename_i hn;injection h with h;subst h
  exact ⟨other (zT hn),rfl⟩
theorem D3 {g:Ge G} {s:DS G} {id:Nat} {cs:List (TV G)} (hid:s.H[id]?=some (.box cs)):aH (s.Hv g) id=some (cs.length,[TV.aS g s.ln cs]):=by
 unfold aH;rw [bw hid];rfl
theorem rI {g:Ge G} {s:DS G} {id o:Nat} {cs:List (TV G)} (hid:s.H[id]?=some (.box cs)) {v:TV G} (hv:cs[o]?=some v):loadAt (s.Hv g) 1 false (.aA id 1 0 o)=some (v.av g s.ln):=by
 simp only [loadAt,D3 hid,zag,if_true,zas];exact fQ (n:=1) (ag:=false) (cs:=cs) (o:=o) hv
theorem IE {g:Ge G} (hg:g.Ok) {s s':DS G} {b t off sz:Nat} (h:E7 s t off sz=some s'):aG b (s.st g) (.o8 t off sz)=some (s'.st g)/\s'.FR g=s.FR g:=by
 have aP:(s.st g).tmps.get t=(s.get t).av g s.ln:=DS.ie g s t;unfold E7 at h;split at h
 ·rename_i id o hv;have aP:(s.st g).tmps.get t= .aA id 1 0 o:=by rw [aP,hv];rfl
  split at h
  case h_2=>cases h
  rename_i cs hid;have rest:∀ {v:TV G},cs[o+off]?=some v->v.av g s.ln≠ .bD->aG b (s.st g) (.o8 t off sz)=some (s.st g):=by
   intro v h1 h2;have hl:loadAt (s.st g).H 1 false (.aA id 1 0 (o+off))=some (v.av g s.ln):=rI hid h1;rw [aG,aP];dsimp only;rw [hl];split
   ·rename_i e;injection e with e;exact (h2 e).elim
   ·rfl
  split at h
  ·rename_i v hcs;split at h
   ·split at h
    case isFalse=>cases h
    rename_i hf;injection h with h;subst h
    obtain ⟨k1,k2,k3⟩:=fV (g:=g) hf;have hle:=kD hf;have AA:=ju hle (TO.cX .nil sz ([]:List (List (TV G))));have Tr:id < s.H.length:=(zaa.1 hid).1;have dy:(s.eE s.H.length (.cX .nil sz [])).H[id]?=some (.box cs):=by
     unfold DS.eE;dsimp only;rw [if_neg (zc _),zap Tr,hid]
    have hH':(s.eE s.H.length (.cX .nil sz [])).Hv g=s.Hv g++[.live .nil sz []]:=by
     rw [k3];unfold putObj;rw [gH,if_neg (zc _)];rfl
    obtain ⟨e1,e2,e3,e4⟩:=fG (g:=g) (o':= .box (cs.set (o+off) (.own s.H.length))) dy rfl;refine ⟨?_,by rw [e3,k2]⟩;have hl:loadAt (s.st g).H 1 false (.aA id 1 0 (o+off))=some .bD:=rI hid hcs;have ho:o+off < cs.length:=(zaa.1 hcs).1;have hst:storeAt ((s.st g).H++[.live .nil sz []]) 1 (.aA id 1 0 (o+off)) (.own (s.st g).H.length 0 0 0)=some (((s.eE s.H.length (.cX .nil sz [])).iT id (.box (cs.set (o+off) (.own s.H.length)))).Hv g):=by
     show storeAt (s.Hv g++[.live .nil sz []]) 1 _ (.own (s.Hv g).length 0 0 0)=_;rw [<-hH',e4];have hg2:=bw (g:=g) dy;simp only [storeAt,aH,hg2,TO.av,zag,cD,AV.cells];rw [if_pos ⟨trivial,trivial,by omega,rfl,rfl⟩];simp only [zas,zb8,putAt,zbK];have:TV.aS g (s.eE s.H.length (.cX .nil sz [])).ln (cs.set (o+off) (.own s.H.length))=(TV.aS g (s.eE s.H.length (.cX .nil sz [])).ln cs).set (o+off) (.own (s.Hv g).length 0 0 0):=by
      rw [bU,bU,zbJ,gH];show _=List.set _ _ _;congr 1;show AV.own s.H.length (DS.ln _ s.H.length) 0 (DS.ln _ s.H.length)=_;rw [AA];rfl
     rw [this]
    rw [aG,aP];dsimp only;rw [hl];dsimp only;rw [hst];show some (⟨s.tm g,_⟩:ST)=some ⟨DS.tm g _,DS.Hv g _⟩;rw [e2,k1]
   ·rename_i hne;injection h with h;subst h
    exact ⟨rest hcs hne,rfl⟩
  ·rename_i v hne hcs;split at h
   case isFalse=>cases h
   rename_i hn;injection h with h;subst h
   exact ⟨rest hcs (zT hn),rfl⟩
  ·cases h
 ·split at h
  case isFalse=>cases h
  rename_i hn;injection h with h;subst h
  refine ⟨?_,rfl⟩;rw [aG,aP];split
  ·rename_i e;exact (oC hn _ _ _ _ e).elim
  ·rfl
theorem IF {H:List Obj} {id n o:Nat} {cs:List AV} {v:AV} (hH:H[id]?=some (.live .norm n [cs])) (ho:o+1<=n) (hv:v.cells=[v]) (h1:v.one=true):storeAt H 1 (.aA id 1 0 o) v=some (H.set id (.live .norm n [cs.set o v])):=by
 have ha:aV [v]=true:=by simp [aV,h1]
 simp only [storeAt,aH,hH,cD,hv,zag];rw [if_pos ⟨trivial,trivial,ho,ha,rfl⟩];simp [putAt]
theorem MB {g:Ge G} (hg:g.Ok) {s s':DS G} {b t off:Nat} (h:Km s t off=some s'):aG b (s.st g) (.yR t off)=some (s'.st g)/\s'.FR g=s.FR g:=by
 have aP:(s.st g).tmps.get t=(s.get t).av g s.ln:=DS.ie g s t;unfold Km at h;split at h
 ·rename_i id o hv;have aP:(s.st g).tmps.get t= .aA id 1 0 o:=by rw [aP,hv];rfl
  split at h
  case h_2=>cases h
  rename_i cs hid;split at h
  ·rename_i j hcs;split at h
   ·cases h
   rename_i hj;have hj:j≠id:=by rintro rfl;simp at hj
   have ua:∀ {ob:TO G} {fl:Fl} {sz:Nat} {es:List (List AV)},s.H[j]?=some ob->ob.av g s.ln (s.FR g)= .live fl sz es->ob.len=es.length->AV.bN 0 es=true->
    loadAt (s.st g).H 1 false (.aA id 1 0 (o+off))=some (.own j es.length 0 es.length)/\ke 0 ⟨[.own j es.length 0 es.length],(s.st g).H⟩=if fl.free=true then some ⟨[.ro es],(s.Hv g).set j .dead⟩ else none:=by
    intro ob fl sz es yS h1 h2 h3;have e:s.ln j=es.length:=by unfold DS.ln kg;rw [yS];exact h2
    have hH:(s.Hv g)[j]?=some (.live fl sz es):=by rw [bw yS,h1]
    have hn:cD (s.Hv g) j=fl:=by unfold cD;rw [hH]
    refine ⟨?_,?_⟩
    ·have:=rI (g:=g) hid hcs;rw [show (TV.own j:TV G).av g s.ln= .own j (s.ln j) 0 (s.ln j) from rfl,e] at this;exact this
    ·unfold ke;show (match aH (s.Hv g) j with | some (_,es)=>_ | none=>none)=_;simp only [aH,hH,zaQ];rw [zad (za6 _),show cD (s.st g).H j=fl from hn];by_cases hf:fl.free=true
     ·rw [if_pos ⟨trivial,h3,hf⟩,if_pos hf];rfl
     ·rw [if_neg (fun h=>hf h.2.2),if_neg hf]
   have go:∀ {ob:TO G} {fl:Fl} {sz:Nat} {es:List (List AV)} {v:TV G},s.H[j]?=some ob->ob.av g s.ln (s.FR g)= .live fl sz es->ob.len=es.length->AV.bN 0 es=true->fl.free=true->v.av g (s.ec j .dead).ln= .ro es->
    Gt s id j (o+off) cs.length v=some s'->aG b (s.st g) (.yR t off)=some (s'.st g)/\s'.FR g=s.FR g:=by
    intro ob fl sz es v yS h1 h2 h3 hf hv h;obtain ⟨hl,hfz⟩:=ua yS h1 h2 h3;unfold Gt at h;split at h
    case h_2=>cases h
    rename_i cs' dy;split at h
    case isFalse=>cases h
    rename_i hlen;have hlen:=za3 hlen;injection h with h;subst h
    obtain ⟨k1,k2,k3,k4⟩:=qY (g:=g) (o':= .dead) yS;obtain ⟨e1,e2,e3,e4⟩:=fG (g:=g) (o':= .box (cs'.set (o+off) v)) dy rfl;refine ⟨?_,by rw [e3,k3]⟩;have hg2:=bw (g:=g) dy;rw [k4] at hg2;have ho:o+off < cs.length:=(zaa.1 hcs).1;have hst:storeAt ((s.Hv g).set j .dead) 1 (.aA id 1 0 (o+off)) (.ro es)=some (((s.ec j .dead).iT id (.box (cs'.set (o+off) v))).Hv g):=by
     rw [e4,k4];rw [IF (show ((s.Hv g).set j .dead)[id]?=some (.live .norm cs'.length [TV.aS g (s.ec j .dead).ln cs']) from hg2) (by omega) rfl rfl];simp only [TO.av,zbK];have:TV.aS g (s.ec j .dead).ln (cs'.set (o+off) v)=(TV.aS g (s.ec j .dead).ln cs').set (o+off) (.ro es):=by
      rw [bU,bU,zbJ,hv]
     rw [this]
    rw [aG,aP];dsimp only;rw [hl];dsimp only;rw [if_neg hj,hfz,if_pos hf];dsimp only;rw [hst];show some (⟨s.tm g,_⟩:ST)=some ⟨DS.tm g _,DS.Hv g _⟩;rw [e2,k2]
   split at h
   ·rename_i fl u l yS;split at h
    ·rename_i hf;exact go yS rfl (by simp [TO.len]) (gw (c6 hg u).bp l) hf rfl h
    ·rename_i hf;injection h with h;subst h
     obtain ⟨hl,hfz⟩:=ua yS rfl (by simp [TO.len]) (gw (c6 hg u).bp l);refine ⟨?_,rfl⟩;rw [aG,aP];dsimp only;rw [hl];dsimp only;rw [if_neg hj,hfz,if_neg hf]
   ·rename_i fl sz es yS;split at h
    case isFalse=>cases h
    rename_i hf;simp only [za0] at hf;refine go yS rfl (by simp [TO.len,br]) (fZ hg s.ln es hf.2.1) hf.1 ?_ h;show AV.ro _=AV.ro _;rw [gi es hf.2.2]
   ·cases h
  ·rename_i v hne hcs;split at h
   case isFalse=>cases h
   rename_i hn;injection h with h;subst h
   refine ⟨?_,rfl⟩;have hl:loadAt (s.st g).H 1 false (.aA id 1 0 (o+off))=some (v.av g s.ln):=rI hid hcs;rw [aG,aP];dsimp only;rw [hl];split
   ·rename_i e;injection e with e;exact (lP hn _ _ _ _ e).elim
   ·rfl
  ·cases h
 ·split at h
  case isFalse=>cases h
  rename_i hn;injection h with h;subst h
  refine ⟨?_,rfl⟩;rw [aG,aP];split
  ·rename_i e;exact (oC hn _ _ _ _ e).elim
  ·rfl
theorem IG {g:Ge G} (hg:g.Ok) {s s':DS G} {b n:Nat} (h:E8 s (b+n)=some s'):aG b (s.st g) (.kn n)=some (s'.st g)/\s'.FR g=s.FR g:=by
 have hlen:(s.st g).H.length=s.H.length:=gH g s;unfold E8 at h;split at h
 ·rename_i hb;have keep:(T.aT (b+n) (s.st g).tmps&&bW (b+n) ((s.st g).H.take (b+n)))=false->aG b (s.st g) (.kn n)=some (s.st g):=by
   intro hx;rw [aG,hx,Bool.and_false];rfl
  split at h
  ·rename_i vG;have h1:T.aT (b+n) (s.st g).tmps=true:=nT hg vG;split at h
   ·rename_i hO;have h2:bW (b+n) ((s.st g).H.take (b+n))=true:=by
     show bW (b+n) ((s.H.map _).take (b+n))=true;rw [<-zbP];exact fF hg (vi hg) hO
    split at h
    case isFalse=>cases h
    rename_i hF;injection h with h;subst h
    have hl:∀ j,j < b+n->(s.AL (b+n)).ln j=s.ln j:=by
     intro j hj;unfold DS.ln kg DS.AL;dsimp only;rw [zb5,if_pos hj]
    have yD:(s.AL (b+n)).FR g=s.FR g:=zS hl hF;refine ⟨?_,yD⟩;rw [aG,hlen,hb,h1,h2];show some (⟨s.tm g,(s.Hv g).take (b+n)⟩:ST)=some ⟨(s.AL (b+n)).tm g,(s.AL (b+n)).Hv g⟩;have e1:(s.AL (b+n)).tm g=s.tm g:=by
     show (⟨s.sz,_⟩:T)=⟨s.sz,_⟩;rw [show (s.AL (b+n)).sl=s.sl from rfl,qh hl vG]
    have e2:(s.AL (b+n)).Hv g=(s.Hv g).take (b+n):=by
     unfold DS.Hv;rw [yD];show (s.H.take (b+n)).map _=_;rw [eu hl hO,zbP]
    rw [e1,e2]
   ·rename_i hO;injection h with h;subst h
    refine ⟨?_,rfl⟩;have h2:bW (b+n) ((s.st g).H.take (b+n))=false:=by
     show bW (b+n) ((s.H.map _).take (b+n))=false;rw [<-zbP];exact fF hg (vi hg) hO
    exact keep (by rw [h2,Bool.and_false])
   ·cases h
  ·rename_i vG;injection h with h;subst h
   have h1:T.aT (b+n) (s.st g).tmps=false:=nT hg vG;exact ⟨keep (by rw [h1,Bool.false_and]),rfl⟩
  ·cases h
 ·rename_i hb;injection h with h;subst h
  refine ⟨?_,rfl⟩;have hb':Nat.blt (b+n) s.H.length=false:=Bool.eq_false_iff.2 hb;rw [aG,hlen,hb',Bool.false_and];rfl
theorem G2 {g:Ge G} (hg:g.Ok) (hw:g.Wk) {s s':DS G} {b:Nat} {a:GA} (h:JP g b s a=some s'):aG b (s.st g) a=some (s'.st g)/\s'.FR g=s.FR g:=by
 have aP:∀ t,(s.st g).tmps.get t=(s.get t).av g s.ln:=fun t=>DS.ie g s t
 cases a with
 | kill l=>
  injection h with h;subst h
  obtain ⟨e1,e2⟩:=GZ (g:=g) (l:=l) (s:=s);exact ⟨by rw [aG,e1];rfl,e2⟩
 | wk l=>
  obtain ⟨e1,e2⟩:=GY hg hw h;exact ⟨by rw [aG,e1],e2⟩
 | kn n=>exact IG hg h
 | ua t=>rw [ID];exact PI hg h
 | nk t=>exact Mz hg h
 | yR t off=>exact MB hg h
 | prom t sz=>exact MA hg h
 | o8 t off sz=>exact IE hg h
 | sh t=>
  unfold JP at h;dsimp only at h;split at h
  case isFalse=>cases h
  rename_i hn;injection h with h;subst h
  refine ⟨?_,rfl⟩;rw [aG,aP];split
  ·rename_i e;exact (lP hn _ _ _ _ e).elim
  ·rfl
 | res t=>
  unfold JP at h;dsimp only at h;split at h
  case isFalse=>cases h
  rename_i hn;injection h with h;subst h
  refine ⟨?_,rfl⟩;rw [aG,aP];split
  ·rename_i e;exact (lP hn _ _ _ _ e).elim
  ·rfl
 | cut t=>cases h
theorem AZ {g:Ge G} (hg:g.Ok) (hw:g.Wk) {b:Nat}:∀ {l:List GA} {s s':DS G},Eo g b l s=some s'->cN b l (s.st g)=some (s'.st g)/\s'.FR g=s.FR g
 | [],s,s',h=>by injection h with h;subst h;exact ⟨rfl,rfl⟩
 | a::r,s,s',h=>by
  rw [Eo] at h;split at h
  case h_2=>cases h
  rename_i s1 h1;obtain ⟨e1,e2⟩:=G2 hg hw h1;obtain ⟨e3,e4⟩:=AZ hg hw h;exact ⟨by rw [cN,e1];exact e3,by rw [e4,e2]⟩
def Ts {R:Type} (b:Nat) (s:DS G) (t:Nat) (c:DS G->Option R):Option R:=match s.get t with
 | .raw v=>(match v with
  | .own id ext off len=>(match s.H[id]? with
   | some (.aL fl u l)=>if decide (fl= .norm)&&((Nat.beq off 0&&Nat.beq len 0)&&(Nat.ble b id&&Nat.beq (id+1) s.H.length)) then
    (match o9 id (s.put t (.raw .any)).sl,hN id (Ca id s.fr) (s.H.take id) with
     | some true,some true=>if ext=l.length then c ((s.ec id (.aL .norm u [])).put t (.own id)) else none
     | _,_=>none) else none
   | _=>none)
  | _=>none)
 | _=>none
theorem PJ {R:Type} {g:Ge G} (hg:g.Ok) {b:Nat} {s:DS G} {t:Nat} {c:DS G->Option R} {r:R} (h:Ts b s t c=some r):
 ∃ s',aG b (s.st g) (.cut t)=some (s'.st g)/\s'.FR g=s.FR g/\c s'=some r:=by
 have aP:(s.st g).tmps.get t=(s.get t).av g s.ln:=DS.ie g s t;unfold Ts at h;split at h
 case h_2=>cases h
 rename_i v hv;split at h
 case h_2=>cases h
 rename_i id ext off len;split at h
 case h_2=>cases h
 rename_i fl u l hid;split at h
 case isFalse=>cases h
 rename_i hc;simp only [za0,decide_eq_true_eq] at hc;obtain ⟨h1,⟨h2,h3⟩,h4,h5⟩:=hc;subst h1;have h2:=za3 h2;have h3:=za3 h3;have h5':=za3 h5;subst h2;subst h3;split at h
 case h_2=>cases h
 rename_i vG hO;split at h
 case isFalse=>cases h
 rename_i he;subst he;have AA:(s.ec id (.aL .norm u [])).ln id=0:=(qY (g:=g) (o':= .aL .norm u []) hid).1;obtain ⟨k1,k2⟩:=Bl (g:=g) (o':= .aL .norm u []) hid t (.own id);refine ⟨_,?_,k2,h⟩;have hH:(s.st g).H[id]?=some (.live .norm (u.n g) (l.map (enc g u))):=bw (g:=g) hid;have b1:T.aT id ((s.st g).tmps.put t .any)=true:=by
  have:T.aT id ((s.put t (.raw .any)).tm g)=true:=nT hg vG
  rwa [DS.sM] at this
 have b2:bW id ((s.st g).H.take id)=true:=by
  show bW id ((s.H.map _).take id)=true;rw [<-zbP];exact fF hg (vi hg) hO
 have b3:AV.bN id (l.map (enc g u))=true:=qi (c6 hg u).bp id l;have b4:(s.st g).H.length=s.H.length:=gH g s;rw [aG,aP,hv];show (match (s.st g).H[id]? with | some (.live .norm sz es)=>_ | _=>none)=_;rw [hH];dsimp only;rw [if_pos (by rw [b1,b2,b3,b4,h4,h5,zah];simp [Nat.beq_eq,Nat.ble_eq])];rw [k1];simp only [TV.av,AA,List.take_zero,TO.av,List.map_nil];rfl
def RR:GA->Option Nat
 | .cut t=>some t
 | _=>none
theorem MC {a:GA} {t:Nat} (h:RR a=some t):a= .cut t:=by
 cases a with
 | cut t'=>injection h with h;rw [h]
 | _=>cases h
def V4 {R:Type} (g:Ge G) (b:Nat):List GA->DS G->(DS G->Option R)->Option R
 | [],s,c=>c s
 | a::r,s,c=>(match RR a with
  | some t=>Ts b s t fun s'=>V4 g b r s' c
  | none=>(match JP g b s a with | some s'=>V4 g b r s' c | none=>none))
theorem E9 {R:Type} {g:Ge G} (hg:g.Ok) (hw:g.Wk) {b:Nat} {c:DS G->Option R} {r:R}:∀ {l:List GA} {s:DS G},V4 g b l s c=some r->
 ∃ s',cN b l (s.st g)=some (s'.st g)/\s'.FR g=s.FR g/\c s'=some r
 | [],s,h=>⟨s,rfl,rfl,h⟩
 | a::l,s,h=>by
  rw [V4] at h;split at h
  ·rename_i t ht;rw [MC ht];obtain ⟨s1,e1,e2,h⟩:=PJ hg h;obtain ⟨s2,e3,e4,h⟩:=E9 hg hw h;exact ⟨s2,by rw [cN,e1];exact e3,by rw [e4,e2],h⟩
  ·split at h
   case h_2=>cases h
   rename_i s1 h1;obtain ⟨e1,e2⟩:=G2 hg hw h1;obtain ⟨s2,e3,e4,h⟩:=E9 hg hw h;exact ⟨s2,by rw [cN,e1];exact e3,by rw [e4,e2],h⟩
end
end oZ
