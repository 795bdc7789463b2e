/- Typed states: ghost steps. No condition. -/
import Derived.Test.YtafgdbaekppjcaaGreatDoorDnG
set_option linter.unusedSectionVars false
set_option linter.unusedVariables false
set_option linter.unusedSimpArgs false
namespace oe
open Go hiding Obj mark
open Go.Pl Go.Am Go.Am.As
section
variable {G:Nat->Type} {R:Type}
mutual
def A9 (m:Nat):TV G->Option Bool
 | .own i=>some (Nat.blt i m)
 | .po i _=>some (Nat.blt i m)
 | .pe i _ _=>some (Nat.blt i m)
 | .pa i _ _ _=>some (Nat.blt i m)
 | .sa i _ _ _ _=>if Nat.blt i m then some true else none
 | .agg l=>nC m l
 | .aY l=>nC m l
 | .fn _ l=>nC m l
 | .raw v=>some (v.bD m)
 | .bR l=>if ig l then some true else none
 | .o4 es=>if jh es then some true else none
 | _=>some true
def nC (m:Nat):List (TV G)->Option Bool
 | []=>some true
 | x::xs=>(match A9 m x with
  | some a=>(match nC m xs with | some b=>some (a&&b) | none=>none)
  | none=>none)
end
theorem ql {n:Nat} {l:List AV} (h:AV.aR 0 l=true):AV.aR n l=true:=gj (zaO n) l h
theorem pW (i m:Nat):Nat.blt i m=decide (i < m):=by
 cases h:Nat.blt i m with
 | true=>have:i < m:=by simpa [zbV] using h
         simp [this]
 | false=>have:¬ i < m:=by intro hc;rw [show Nat.blt i m=true by simpa [zbV] using hc] at h;cases h
          simp [this]
mutual
theorem Ip {g:Ge G} (hg:g.Ok) {ln:Nat->Nat} {m:Nat}:∀ (v:TV G) (b:Bool),A9 m v=some b->(v.av g ln).bD m=b
 | .own i,b,h=>by injection h with h;rw [<-h,pW];rfl
 | .po i o,b,h=>by injection h with h;rw [<-h,pW];rfl
 | .pe i n o,b,h=>by injection h with h;rw [<-h,pW];rfl
 | .pa i sz n o,b,h=>by injection h with h;rw [<-h,pW];rfl
 | .sa i lo len _ _,b,h=>by
  rw [A9] at h;split at h
  ·rename_i hc;injection h with h;subst h
   show AV.bD m (if len=0 then .ro [] else .arr i 1 0 lo 1 len)=true;split
   ·rfl
   ·rw [pW] at hc;exact hc
  ·cases h
 | .agg l,b,h=>jS hg l b h
 | .aY l,b,h=>jS hg l b h
 | .fn _ l,b,h=>jS hg l b h
 | .raw v,b,h=>by injection h with h
 | .int _ _,b,h | .bool _,b,h | .str _,b,h | .aQ _ _,b,h=>by injection h with h
 | .bR l,b,h=>by
  rw [A9] at h;split at h
  ·injection h with h
  ·cases h
 | .o4 l,b,h=>by
  rw [A9] at h;split at h
  ·injection h with h
  ·cases h
 | .gr t o,b,h=>by injection h with h;subst h;cases o<;>rfl
 | .dO t o,b,h=>by injection h with h;subst h;cases o<;>rfl
 | .arr n t a,b,h=>by injection h with h;subst h;exact ql ((cT hg (.arr n t)).bD a)
theorem jS {g:Ge G} (hg:g.Ok) {ln:Nat->Nat} {m:Nat}:∀ (l:List (TV G)) (b:Bool),nC m l=some b->AV.aR m (TV.aP g ln l)=b
 | [],b,h=>by injection h with h
 | x::l,b,h=>by
  rw [nC] at h;split at h
  case h_2=>cases h
  rename_i p hp;split at h
  case h_2=>cases h
  rename_i q hq;injection h with h;subst h
  simp only [TV.aP,AV.aR,Ip hg x p hp,jS hg l q hq]
end
mutual
theorem DA {g:Ge G} {ln cc:Nat->Nat} {m:Nat} (hl:∀ j,j < m->cc j=ln j):∀ (v:TV G),A9 m v=some true->v.av g cc=v.av g ln
 | .own i,h=>by
  injection h with h;rw [pW,decide_eq_true_eq] at h
  rw [TV.av,TV.av,hl i h]
 | .pe i n o,h=>by
  injection h with h;rw [pW,decide_eq_true_eq] at h
  rw [TV.av,TV.av,hl i h]
 | .agg l,h=>by rw [TV.av,TV.av,jq hl l h]
 | .aY l,h=>by rw [TV.av,TV.av,jq hl l h]
 | .fn _ l,h=>by rw [TV.av,TV.av,jq hl l h]
 | .int _ _,h | .bool _,h | .str _,h | .aQ _ _,h | .gr _ _,h | .arr ..,h | .dO ..,h | .raw _,h | .po ..,h | .pa ..,h | .sa ..,h=>rfl
 | .o4 es,h=>by
  rw [A9] at h;split at h
  ·rename_i hc;rw [TV.av,TV.av,fV es hc]
  ·cases h
 | .bR l,h=>by
  rw [A9] at h;split at h
  ·rename_i hc;rw [TV.av,TV.av,eH l hc]
  ·cases h
theorem jq {g:Ge G} {ln cc:Nat->Nat} {m:Nat} (hl:∀ j,j < m->cc j=ln j):∀ (l:List (TV G)),nC m l=some true->TV.aP g cc l=TV.aP g ln l
 | [],_=>rfl
 | x::l,h=>by
  rw [nC] at h;split at h
  case h_2=>cases h
  rename_i p hp;split at h
  case h_2=>cases h
  rename_i q hq;injection h with h
  rw [za0] at h;rw [h.1] at hp;rw [h.2] at hq;rw [TV.aP,TV.aP,DA hl x hp,jq hl l hq]
end
def pA (m:Nat):List (Nat×TV G)->Option Bool
 | []=>some true
 | x::xs=>(match A9 m x.2 with
  | some a=>(match pA m xs with | some b=>some (a&&b) | none=>none)
  | none=>none)
theorem nS {g:Ge G} (hg:g.Ok) {ln:Nat->Nat} {m:Nat}:∀ {l:List (Nat×TV G)} {b:Bool},pA m l=some b->T.lu m (dJ g ln l)=b
 | [],b,h=>by injection h with h
 | x::l,b,h=>by
  rw [pA] at h;split at h
  case h_2=>cases h
  rename_i p hp;split at h
  case h_2=>cases h
  rename_i q hq;injection h with h;subst h
  show ((x.2.av g ln).bD m&&T.lu m (dJ g ln l))=_;rw [Ip hg _ p hp,nS hg hq]
theorem qm {g:Ge G} {ln cc:Nat->Nat} {m:Nat} (hl:∀ j,j < m->cc j=ln j):∀ {l:List (Nat×TV G)},pA m l=some true->dJ g cc l=dJ g ln l
 | [],_=>rfl
 | x::l,h=>by
  rw [pA] at h;split at h
  case h_2=>cases h
  rename_i p hp;split at h
  case h_2=>cases h
  rename_i q hq;injection h with h
  rw [za0] at h;rw [h.1] at hp;rw [h.2] at hq;show (x.1,_)::dJ g cc l=(x.1,_)::dJ g ln l;rw [DA hl _ hp,qm hl hq]
def pX (m:Nat):List (List (TV G))->Option Bool
 | []=>some true
 | x::xs=>(match nC m x with
  | some a=>(match pX m xs with | some b=>some (a&&b) | none=>none)
  | none=>none)
theorem tC {g:Ge G} (hg:g.Ok) {ln:Nat->Nat} {m:Nat}:∀ {l:List (List (TV G))} {b:Bool},pX m l=some b->AV.bO m (TV.cV g ln l)=b
 | [],b,h=>by injection h with h
 | x::l,b,h=>by
  rw [pX] at h;split at h
  case h_2=>cases h
  rename_i p hp;split at h
  case h_2=>cases h
  rename_i q hq;injection h with h;subst h
  simp only [TV.cV,AV.bO,jS hg x p hp,tC hg hq]
theorem ur {g:Ge G} {ln cc:Nat->Nat} {m:Nat} (hl:∀ j,j < m->cc j=ln j):∀ {l:List (List (TV G))},pX m l=some true->TV.cV g cc l=TV.cV g ln l
 | [],_=>rfl
 | x::l,h=>by
  rw [pX] at h;split at h
  case h_2=>cases h
  rename_i p hp;split at h
  case h_2=>cases h
  rename_i q hq;injection h with h
  rw [za0] at h;rw [h.1] at hp;rw [h.2] at hq;rw [TV.cV,TV.cV,jq hl _ hp,ur hl hq]
def gz (m:Nat) (fb:Bool):List (TO G)->Option Bool
 | []=>some true
 | .box l::r=>(match nC m l with
  | some a=>(match gz m fb r with | some b=>some (a&&b) | none=>none)
  | none=>none)
 | .cQ _ _ es::r=>if jK es&&jh es then gz m fb r else (match pX m es with
  | some a=>(match gz m fb r with | some b=>some (a&&b) | none=>none)
  | none=>none)
 | .mix ..::r=>none
 | .lp ..::r=>if fb then gz m fb r else none
 | _::r=>gz m fb r
theorem Ox {g:Ge G} (hg:g.Ok) {ln:Nat->Nat} {m:Nat} {es:List (List (TV G))} (h:jK es=true):AV.bO m (TV.cV g ln es)=true:=by
 have h0:=fR hg ln es h;have:∀ {l:List (List AV)},AV.bO 0 l=true->AV.bO m l=true:=by
  intro l;induction l with
  | nil=>intro _;rfl
  | cons x l ih=>
   intro h;simp only [AV.bO,za0] at h ⊢;exact ⟨ql h.1,ih h.2⟩
 exact this h0
theorem Oy {m:Nat} {τ:T} (h:T.lu m τ.l=true):AV.aR m τ.toL=true:=by
 have h1:∀ (l:List (Nat×AV)),T.lu m l=true->∀ i,(T.eY l i).bD m=true:=by
  intro l;induction l with
  | nil=>intro _ i;simp [T.eY,AV.bD]
  | cons x r ih=>
   obtain ⟨k,v⟩:=x;intro h;simp only [T.lu,za0] at h;intro i;simp only [T.eY];by_cases hk:k=i
   ·simp [hk,h.1]
   ·simp [hk,ih h.2 i]
 rw [zM];intro i;rw [zbu];by_cases hi:i < τ.toL.length
 ·rw [za1 hi];simp only [T.toL,zay,zbi,zaz];exact h1 _ h _
 ·rw [zao (by omega)];simp [AV.bD]
theorem eO {g:Ge G} (hg:g.Ok) {ln:Nat->Nat} {F:List (T×C3)} {m:Nat} {fb:Bool} (hF:fb=true->∀ f∈F,T.lu m f.1.l=true):∀ {l:List (TO G)} {b:Bool},gz m fb l=some b->bT m (l.map (TO.av g ln F))=b
 | [],b,h=>by injection h with h
 | .box l::r,b,h=>by
  rw [gz] at h;split at h
  case h_2=>cases h
  rename_i p hp;split at h
  case h_2=>cases h
  rename_i q hq;injection h with h;subst h
  show (AV.bO m [_]&&bT m (r.map _))=_;rw [eO hg hF hq];simp only [AV.bO,jS hg _ p hp,Bool.and_true]
 | .cQ fl sz es::r,b,h=>by
  rw [gz] at h;split at h
  ·rename_i hc;rw [za0] at hc;show (AV.bO m (TV.cV g ln es)&&bT m (r.map _))=_;rw [eO hg hF h,Ox hg hc.1,zaS]
  ·split at h
   case h_2=>cases h
   rename_i p hp;split at h
   case h_2=>cases h
   rename_i q hq;injection h with h;subst h
   show (AV.bO m (TV.cV g ln es)&&bT m (r.map _))=_;rw [eO hg hF hq,tC hg hp]
 | .aQ fl t l::r,b,h=>by
  have h:gz m fb r=some b:=h;show (AV.bO m (l.map (enc g t))&&bT m (r.map _))=_;rw [eO hg hF h,qo (cT hg t).bD m l,zaS]
 | .arr n t a::r,b,h=>by
  have h:gz m fb r=some b:=h;show (AV.bO m [(List.map (enc g t) a.1).flatten]&&bT m (r.map _))=_;rw [eO hg hF h];simp only [AV.bO,Bool.and_true];have e:AV.aR m (List.map (enc g t) a.1).flatten=true:=ql ((cT hg (.arr n t)).bD a);exact (congrArg (·&&b) e).trans (zaS b)
 | .dead::r,b,h=>by
  have h:gz m fb r=some b:=h;show (true&&bT m (r.map _))=_;rw [eO hg hF h,zaS]
 | .ew::r,b,h=>by
  have h:gz m fb r=some b:=h;show (true&&bT m (r.map _))=_;rw [eO hg hF h,zaS]
 | .yN ..::r,b,h=>by
  have h:gz m fb r=some b:=h;show (true&&bT m (r.map _))=_;rw [eO hg hF h,zaS]
 | .imp l::r,b,h=>by
  have h:gz m fb r=some b:=h;show (AV.yY m (l.map fun n=>(.int .i64 n,.bool true))&&bT m (r.map _))=_;rw [eO hg hF h];have:∀ l:List Int,AV.yY m (l.map fun n=>(.int .i64 n,.bool true))=true:=by
   intro l;induction l with
   | nil=>rfl
   | cons x l ih=>simp only [za5,AV.yY,AV.bD,ih,zbM]
  rw [this,zaS]
 | .mg l::r,b,h=>by
  have h:gz m fb r=some b:=h;show (AV.yY m (l.map fun p=>(.str p.1,.int .i64 p.2))&&bT m (r.map _))=_;rw [eO hg hF h];have:∀ l:List (List UInt8×Int),AV.yY m (l.map fun p=>(.str p.1,.int .i64 p.2))=true:=by
   intro l;induction l with
   | nil=>rfl
   | cons x l ih=>simp only [za5,AV.yY,AV.bD,ih,zbM]
  rw [this,zaS]
 | .lp ls fi::r,b,h=>by
  have h:(if fb then gz m fb r else none)=some b:=h;split at h
  case isFalse=>cases h
  rename_i hb;show (Obj.bD m (TO.av g ln F (.lp ls fi))&&bT m (r.map _))=_;rw [eO hg hF h];have:Obj.bD m (TO.av g ln F (.lp ls fi))=true:=by
   show Obj.bD m (match F[fi]? with | some f=> .lp ls f.1.toL f.2.1 f.2.2.1 f.2.2.2 | none=> .dead)=true
   cases e:F[fi]? with
   | none=>rfl
   | some f=>exact Oy (hF hb f (List.mem_of_getElem? e))
  rw [this,zaS]
 | .mix ..::r,b,h=>by cases h
theorem dH {g:Ge G} {ln cc:Nat->Nat} {F:List (T×C3)} {m:Nat} {fb:Bool} (hl:∀ j,j < m->cc j=ln j):∀ {l:List (TO G)},gz m fb l=some true->l.map (TO.av g cc F)=l.map (TO.av g ln F)
 | [],_=>rfl
 | .box l::r,h=>by
  rw [gz] at h;split at h
  case h_2=>cases h
  rename_i p hp;split at h
  case h_2=>cases h
  rename_i q hq;injection h with h
  rw [za0] at h;rw [h.1] at hp;rw [h.2] at hq;show Obj.live _ _ [_]::r.map _=Obj.live _ _ [_]::r.map _;rw [jq hl _ hp,dH hl hq]
 | .cQ fl sz es::r,h=>by
  rw [gz] at h;split at h
  ·rename_i hc;rw [za0] at hc;show Obj.live _ _ _::r.map _=Obj.live _ _ _::r.map _;rw [fV es hc.2,dH hl h]
  ·split at h
   case h_2=>cases h
   rename_i p hp;split at h
   case h_2=>cases h
   rename_i q hq;injection h with h
   rw [za0] at h;rw [h.1] at hp;rw [h.2] at hq;show Obj.live _ _ _::r.map _=Obj.live _ _ _::r.map _;rw [ur hl hp,dH hl hq]
 | .aQ fl t l::r,h=>by
  have h:gz m fb r=some true:=h;show _::r.map _=_::r.map _;rw [dH hl h];rfl
 | .arr n t a::r,h=>by
  have h:gz m fb r=some true:=h;show _::r.map _=_::r.map _;rw [dH hl h];rfl
 | .dead::r,h=>by
  have h:gz m fb r=some true:=h;show _::r.map _=_::r.map _;rw [dH hl h];rfl
 | .ew::r,h=>by
  have h:gz m fb r=some true:=h;show _::r.map _=_::r.map _;rw [dH hl h];rfl
 | .yN ..::r,h=>by
  have h:gz m fb r=some true:=h;show _::r.map _=_::r.map _;rw [dH hl h];rfl
 | .imp ..::r,h=>by
  have h:gz m fb r=some true:=h;show _::r.map _=_::r.map _;rw [dH hl h];rfl
 | .mg ..::r,h=>by
  have h:gz m fb r=some true:=h;show _::r.map _=_::r.map _;rw [dH hl h];rfl
 | .lp ..::r,h=>by
  have h:(if fb then gz m fb r else none)=some true:=h;split at h
  case isFalse=>cases h
  show _::r.map _=_::r.map _;rw [dH hl h];rfl
 | .mix ..::r,h=>by cases h
def CQ (m:Nat):List (Nat×List (Nat×TV G)×C3)->Bool
 | []=>true
 | f::r=>(match pA m f.2.1 with | some b=>b | none=>false)&&CQ m r
theorem z6 {g:Ge G} {ln cc:Nat->Nat} {m:Nat} (hl:∀ j,j < m->cc j=ln j):∀ {l:List (Nat×List (Nat×TV G)×C3)},CQ m l=true->(l.map fun f=>((⟨f.1,dJ g cc f.2.1⟩:T),f.2.2))=l.map fun f=>(⟨f.1,dJ g ln f.2.1⟩,f.2.2)
 | [],_=>rfl
 | f::r,h=>by
  rw [CQ,za0] at h;have h1:pA m f.2.1=some true:=by
   have:=h.1;split at this
   ·rename_i b hb;rw [hb,this]
   ·cases this
  rw [za5,za5,z6 hl h.2,qm hl h1]
theorem vk {g:Ge G} (hg:g.Ok) {ln:Nat->Nat} {m:Nat}:∀ {l:List (Nat×List (Nat×TV G)×C3)},CQ m l=true->∀ f∈(l.map fun f=>((⟨f.1,dJ g ln f.2.1⟩:T),f.2.2)),T.lu m f.1.l=true
 | [],_,_,hf=>by cases hf
 | f::r,h,x,hx=>by
  rw [CQ,za0] at h;have h1:pA m f.2.1=some true:=by
   have:=h.1;split at this
   ·rename_i b hb;rw [hb,this]
   ·cases this
  rcases zad.mp hx with hx | hx
  ·subst hx;exact nS hg h1
  ·exact vk hg h.2 x hx
def sO:TV G->Bool
 | .own _=>false
 | .sa ..=>false
 | .raw v=>(match v with | .own ..=>false | _=>true)
 | _=>true
theorem lU {g:Ge G} {ln:Nat->Nat} {v:TV G} (h:sO v=true):∀ id e o l,v.av g ln≠ .own id e o l:=by
 intro id e o l hv
 cases v with
 | own i=>cases h
 | raw a=>simp only [TV.av] at hv;subst hv;cases h
 | gr t o=>cases o<;>cases hv
 | dO t o=>cases o<;>cases hv
 | sa i lo len=>cases h
 | _=>cases hv
def wD:TV G->Bool
 | .po .. | .pe .. | .pa ..=>false
 | .raw v=>(match v with | .aJ ..=>false | _=>true)
 | _=>true
theorem oB {g:Ge G} {ln:Nat->Nat} {v:TV G} (h:wD v=true):∀ id e i o,v.av g ln≠ .aJ id e i o:=by
 intro id e i o hv
 cases v with
 | po i o=>cases h
 | pe i n o=>cases h
 | pa i s n o=>cases h
 | raw a=>simp only [TV.av] at hv;subst hv;cases h
 | gr t o=>cases o<;>cases hv
 | dO t o=>cases o<;>cases hv
 | sa i lo len=>simp only [TV.av] at hv;split at hv<;>cases hv
 | _=>cases hv
def notNil:TV G->Bool
 | .gr ..=>false
 | .raw v=>(match v with | .bF=>false | _=>true)
 | _=>true
theorem z7 {g:Ge G} {ln:Nat->Nat} {v:TV G} (h:notNil v=true):v.av g ln≠ .bF:=by
 intro hv
 cases v with
 | gr t o=>cases h
 | dO t o=>cases o<;>cases hv
 | raw a=>simp only [TV.av] at hv;subst hv;cases h
 | sa i lo len=>simp only [TV.av] at hv;split at hv<;>cases hv
 | _=>cases hv
def Ty.wk:Ty->Bool
 | .kA _=>false
 | .arr _ t=>t.wk
 | _=>true
end
def Ge.Wk {G:Nat->Type} (g:Ge G):Prop:=∀ i x,(g.enc i x).map AV.Jq=g.enc i x
section
variable {G:Nat->Type} {R:Type}
theorem wE {g:Ge G} (hw:g.Wk):∀ {t:Ty} (x:t.D G),t.wk=true->(enc g t x).map AV.Jq=enc g t x
 | .int _,_,_ | .bool,_,_ | .str,_,_ | .list _,_,_=>rfl
 | .kA _,_,h=>by cases h
 | .ptr _,_,_=>rfl
 | .dO _,o,_=>by cases o<;>rfl
 | .st i,x,_=>hw i x
 | .arr n t,a,h=>by
  show List.map AV.Jq (List.map (enc g t) a.1).flatten=(List.map (enc g t) a.1).flatten;induction a.1 with
  | nil=>rfl
  | cons x l ih=>rw [za5,zb,zal,wE hw (t:=t) x h,ih]
def wkV:TV G->Option (TV G)
 | .raw v=>(match v with | .bF=>some (.o4 []) | v=>some (.raw v.wk))
 | .arr n t a=>if t.wk then some (.arr n t a) else none
 | .agg l=>some (.agg (l.map FD))
 | .aY l=>none
 | .gr t o=>some (.aQ t (o.getD []))
 | v=>some v
theorem Wt {g:Ge G} (hw:g.Wk) {ln:Nat->Nat} {v w:TV G} (h:wkV v=some w):w.av g ln=(v.av g ln).wk:=by
 cases v with
 | raw a=>
  unfold wkV at h;dsimp only at h;split at h
  ·injection h with h;subst h;rfl
  ·injection h with h;subst h;rfl
 | arr n t a=>
  unfold wkV at h;dsimp only at h;split at h
  case isFalse=>cases h
  rename_i hc;injection h with h;subst h
  show AV.agg _=AV.agg (List.map AV.Jq (List.map (enc g t) a.1).flatten);have:=wE hw (t:= .arr n t) a hc;exact congrArg AV.agg this.symm
 | agg l=>injection h with h;subst h;show AV.agg _=AV.agg _;rw [ve]
 | aY l=>cases h
 | gr t o=>injection h with h;subst h;cases o<;>rfl
 | dO t o=>injection h with h;subst h;cases o<;>rfl
 | sa i lo len=>injection h with h;subst h;show (if len=0 then AV.ro [] else .arr i 1 0 lo 1 len)=AV.wk (if len=0 then AV.ro [] else .arr i 1 0 lo 1 len);split<;>rfl
 | _=>injection h with h;subst h;rfl
def YA (g:Ge G):TO G->Option (TO G)
 | .box l=>some (.box (l.map FD))
 | .aQ fl t l=>if t.wk then some (.aQ fl t l) else none
 | .cQ fl sz es=>some (.cQ fl sz (es.map (List.map FD)))
 | .mix fl t l es=>if t.wk then (match pg g t (es.map (List.map FD)) with | some m=>some (.aQ fl t (l++m)) | none=>none) else none
 | .arr n t a=>if t.wk then some (.arr n t a) else none
 | .dead=>some .dead
 | _=>none
theorem Wu {g:Ge G} (hg:g.Ok) (hw:g.Wk) {ln:Nat->Nat} {F:List (T×C3)} {o o':TO G} (h:YA g o=some o'):o'.av g ln F=(o.av g ln F).wk/\o'.len=o.len:=by
 cases o with
 | box l=>
  injection h with h;subst h
  refine ⟨?_,rfl⟩;show Obj.live _ _ [_]=Obj.live _ _ [_];rw [ve,zaa]
 | aQ fl t l=>
  unfold YA at h;dsimp only at h;split at h
  case isFalse=>cases h
  rename_i hc;injection h with h;subst h
  refine ⟨?_,rfl⟩;show Obj.live _ _ _=Obj.live _ _ _;rw [zb6];congr 1;exact (zaR fun x _=>wE hw x hc).symm
 | cQ fl sz es=>
  injection h with h;subst h
  refine ⟨?_,by simp [TO.len]⟩;show Obj.live _ _ _=Obj.live _ _ _;rw [bu,bu,zb6,zb6];congr 1;exact zaR fun x _=>ve x
 | mix fl t l es=>
  unfold YA at h;dsimp only at h;split at h
  case isFalse=>cases h
  rename_i hc;split at h
  case h_2=>cases h
  rename_i m hm;injection h with h;subst h
  obtain ⟨h1,h2⟩:=iL hg ln hm;refine ⟨?_,by simp [TO.len] at h2 ⊢;omega⟩;show Obj.live _ _ _=Obj.live _ _ _;rw [zal,zal,zb6];congr 1;congr 1
  ·exact (zaR fun x _=>wE hw x hc).symm
  ·rw [<-h1,bu,bu,zb6,zb6];exact zaR fun x _=>ve x
 | arr n t a=>
  unfold YA at h;dsimp only at h;split at h
  case isFalse=>cases h
  rename_i hc;injection h with h;subst h
  refine ⟨?_,rfl⟩;show Obj.live _ _ [_]=Obj.live _ _ [_];have:=wE hw (t:= .arr n t) a hc;congr 2;exact this.symm
 | dead=>injection h with h;subst h;exact ⟨rfl,rfl⟩
 | _=>cases h
def JK (g:Ge G) (s:DS G) (id:Nat):Option (DS G):=match s.H[id]? with
 | some o=>(match YA g o with | some o'=>some (s.gV id o') | none=>none)
 | none=>none
def Vl:TV G->Bool
 | .sa ..=>true
 | _=>false
theorem Iq {g:Ge G} {ln:Nat->Nat} {v:TV G} (h:Vl v=true):∀ id e o l,v.av g ln≠ .own id e o l:=by
 intro id e o l hv
 cases v with
 | sa i lo len=>simp only [TV.av] at hv;split at hv<;>cases hv
 | _=>cases h
def Vm (g:Ge G) (s:DS G) (v:TV G):Option (DS G):=match v with
 | .own id=>JK g s id
 | .po id _=>JK g s id
 | .pe id _ _=>JK g s id
 | .pa id _ _ _=>JK g s id
 | v=>if (sO v||Vl v)&&wD v then some s else none
def QW (g:Ge G):List Nat->DS G->Option (DS G)
 | [],s=>some s
 | t::ts,s=>(match wkV (s.get t) with
  | some w=>(match Vm g s (s.get t) with
   | some s1=>QW g ts (s1.put t w)
   | none=>none)
  | none=>none)
theorem vl {g:Ge G} (hg:g.Ok) (hw:g.Wk) {s s':DS G} {id:Nat} (h:JK g s id=some s'):(match (s.Hv g)[id]? with | some o=>(s.Hv g).set id o.wk | none=>s.Hv g)=s'.Hv g/\s'.ln=s.ln/\s'.tm g=s.tm g/\s'.FR g=s.FR g:=by
 unfold JK at h;split at h
 case h_2=>cases h
 rename_i o ho;split at h
 case h_2=>cases h
 rename_i o' ho';injection h with h;subst h
 obtain ⟨k1,k2⟩:=Wu (g:=g) (ln:=s.ln) (F:=s.FR g) hg hw ho';obtain ⟨e1,e2,e3,e4⟩:=eP (g:=g) (o':=o') ho k2;refine ⟨?_,e1,e2,e3⟩;rw [bl ho,e4,k1]
theorem RN {g:Ge G} (hg:g.Ok) (hw:g.Wk) {s s':DS G} {v:TV G} (h:Vm g s v=some s'):P6 (s.Hv g) (v.av g s.ln)=s'.Hv g/\s'.ln=s.ln/\s'.tm g=s.tm g/\s'.FR g=s.FR g:=by
 have other:∀ {v:TV G},(∀ id e o l,v.av g s.ln≠ .own id e o l)->(∀ id e i o,v.av g s.ln≠ .aJ id e i o)->P6 (s.Hv g) (v.av g s.ln)=s.Hv g:=by
  intro v h1 h2;unfold P6;split
  ·rename_i e;exact (h2 _ _ _ _ e).elim
  ·rename_i e;exact (h1 _ _ _ _ e).elim
  ·rfl
 unfold Vm at h;split at h
 ·exact vl hg hw h
 ·exact vl hg hw h
 ·exact vl hg hw h
 ·exact vl hg hw h
 ·split at h
  case isFalse=>cases h
  rename_i hn;rw [za0] at hn;injection h with h;subst h
  refine ⟨other ?_ (oB hn.2),rfl,rfl,rfl⟩;rcases (zat _ _).mp hn.1 with hn | hn
  ·exact lU hn
  ·exact Iq hn
theorem Ir {g:Ge G} (hg:g.Ok) (hw:g.Wk):∀ {ts:List Nat} {s s':DS G},QW g ts s=some s'->vO ts (s.st g)=s'.st g/\s'.FR g=s.FR g
 | [],s,s',h=>by injection h with h;subst h;exact ⟨rfl,rfl⟩
 | t::ts,s,s',h=>by
  rw [QW] at h;split at h
  case h_2=>cases h
  rename_i w hw';split at h
  case h_2=>cases h
  rename_i s1 h1;obtain ⟨k1,k2,k3,k4⟩:=RN hg hw h1;obtain ⟨e1,e2⟩:=Ir hg hw h;refine ⟨?_,by rw [e2,DS.sP,k4]⟩;rw [vO,<-e1];congr 1;show (⟨_,_⟩:ST)=⟨(s1.put t w).tm g,(s1.put t w).Hv g⟩;rw [DS.sQ,DS.wF,k3,k2,<-k1,Wt hw hw',<-DS.ij];rfl
def DS.C0 (s:DS G):List Nat->DS G
 | []=>s
 | d::ds=>DS.C0 ⟨s.sz,FK s.sl d,s.H,s.fr⟩ ds
theorem It {g:Ge G}:∀ {l:List Nat} {s:DS G},(s.C0 l).st g=⟨T.fI l (s.tm g),s.Hv g⟩/\(s.C0 l).FR g=s.FR g
 | [],s=>⟨rfl,rfl⟩
 | d::l,s=>by
  rw [DS.C0];obtain ⟨e1,e2⟩:=It (g:=g) (l:=l) (s:=⟨s.sz,FK s.sl d,s.H,s.fr⟩);refine ⟨?_,e2⟩;rw [e1,T.fI];show (⟨T.fI l ⟨s.sz,dJ g s.ln (FK s.sl d)⟩,_⟩:ST)=⟨T.fI l ⟨s.sz,T.nh (dJ g s.ln s.sl) d⟩,_⟩;rw [Iu];rfl
def DS.Ba (s:DS G) (m:Nat):DS G:=⟨s.sz,s.sl,s.H.take m,s.fr⟩
def Vn (s:DS G) (t:Nat):Option (DS G):=match s.get t with
 | .own id=>(match s.H[id]? with
  | some (.aQ fl u l)=>if fl.free then some ((s.cY id .dead).put t (.aQ u l)) else some s
  | some (.cQ fl sz es)=>if fl.free then (if jK es&&jh es then some ((s.cY id .dead).put t (.o4 es)) else (match pX 0 es with | some false=>some s | _=>none)) else some s
  | _=>none)
 | v=>if sO v||Vl v then some s else none
def LR (s:DS G) (t:Nat):Option (DS G):=match s.get t with
 | .po id o=>if Nat.beq o 0 then (match s.H[id]? with
  | some (.box cs)=>if TV.mS cs&&ig cs then some ((s.gV id .dead).put t (.bR cs)) else (match nC 0 cs with | some false=>some s | _=>none)
  | _=>none) else some s
 | v=>if wD v then some s else none
def HL (s:DS G) (id j o n:Nat) (v:TV G):Option (DS G):=match (s.cY j .dead).H[id]? with
 | some (.box cs')=>if Nat.beq cs'.length n then some ((s.cY j .dead).gV id (.box (cs'.set o v))) else none
 | _=>none
def LS (s:DS G) (t off:Nat):Option (DS G):=match s.get t with
 | .po id o=>(match s.H[id]? with
  | some (.box cs)=>(match cs[o+off]? with
   | some (.own j)=>if Nat.beq j id then none else (match s.H[j]? with
    | some (.aQ fl u l)=>if fl.free then HL s id j (o+off) cs.length (.aQ u l) else some s
    | some (.cQ fl sz es)=>if fl.free&&(jK es&&jh es) then HL s id j (o+off) cs.length (.o4 es) else none
    | _=>none)
   | some v=>if sO v then some s else none
   | none=>none)
  | _=>none)
 | v=>if wD v then some s else none
def LV (s:DS G) (t sz:Nat):Option (DS G):=match s.get t with
 | .raw v=>(match v with
  | .bF=>if s.fits s.H.length (.cQ .nil sz []) then some ((s.dL s.H.length (.cQ .nil sz [])).put t (.own s.H.length)) else none
  | _=>some s)
 | v=>if notNil v then some s else none
def F7 (s:DS G) (t off sz:Nat):Option (DS G):=match s.get t with
 | .po id o=>(match s.H[id]? with
  | some (.box cs)=>(match cs[o+off]? with
   | some (.raw v)=>(match v with
    | .bF=>if s.fits s.H.length (.cQ .nil sz []) then some ((s.dL s.H.length (.cQ .nil sz [])).gV id (.box (cs.set (o+off) (.own s.H.length)))) else none
    | _=>some s)
   | some v=>if notNil v then some s else none
   | none=>none)
  | _=>none)
 | v=>if wD v then some s else none
def F8 (s:DS G) (m:Nat):Option (DS G):=
 if Nat.blt m s.H.length then
  (match pA m s.sl with
   | some true=>(match gz m (CQ m s.fr) (s.H.take m) with
    | some true=>if CQ m s.fr then some (s.Ba m) else none
    | some false=>some s
    | none=>none)
   | some false=>some s
   | none=>none)
 else some s
def K9 (g:Ge G) (b:Nat) (s:DS G):GA->Option (DS G)
 | .kill l=>some (s.C0 l)
 | .wk l=>QW g l s
 | .ku n=>F8 s (b+n)
 | .uc t=>Vn s t
 | .nq t=>LR s t
 | .yX t off=>LS s t off
 | .prom t sz=>LV s t sz
 | .pz t off sz=>F7 s t off sz
 | .sh t=>if sO (s.get t) then some s else none
 | .res t=>if sO (s.get t) then some s else none
 | .cut _=>none
def Fk (g:Ge G) (b:Nat):List GA->DS G->Option (DS G)
 | [],s=>some s
 | a::r,s=>(match K9 g b s a with | some s'=>Fk g b r s' | none=>none)
theorem BL {g:Ge G} {s:DS G} {id:Nat} {o o':TO G} (hid:s.H[id]?=some o) (t:Nat) (v:TV G):((s.cY id o').put t v).st g=⟨(s.tm g).put t (v.av g (s.cY id o').ln),(s.Hv g).set id (o'.av g (s.cY id o').ln (s.FR g))⟩/\((s.cY id o').put t v).FR g=s.FR g:=by
 obtain ⟨e1,e2,e3,e4⟩:=ry (g:=g) (o':=o') hid;refine ⟨?_,by rw [DS.sP,e3]⟩;show (⟨DS.tm g _,DS.Hv g _⟩:ST)=_;rw [DS.sQ,DS.wF,e2,e4]
theorem RP {g:Ge G} (hg:g.Ok) {s s':DS G} {t:Nat} (h:Vn s t=some s'):aD 0 (s.st g) (.uc t)=some (s'.st g)/\s'.FR g=s.FR g:=by
 have aL:(s.st g).tmps.get t=(s.get t).av g s.ln:=DS.ij g s t;have other:∀ {v:TV G},(s.get t)=v->(∀ id e o l,v.av g s.ln≠ .own id e o l)->aD 0 (s.st g) (.uc t)=some (s.st g):=by
  intro v hv hn;have:pM t (s.st g)=some (s.st g):=by
   unfold pM;rw [aL,hv];split
   ·rename_i e;exact (hn _ _ _ _ e).elim
   ·rfl
  simp only [aD,this]
 unfold Vn at h;split at h
 ·rename_i id hv;rw [hv] at aL;split at h
  ·rename_i fl u l hid;have hH:=bl (g:=g) hid;have hn:cy (s.Hv g) id=fl:=by unfold cy;rw [hH];rfl
   have hfz:pM t (s.st g)=if fl.free=true then some ⟨(s.tm g).put t (.ro (l.map (enc g u))),(s.Hv g).set id .dead⟩ else none:=by
    unfold pM;rw [aL];show (match aC (s.Hv g) id with | some (_,es)=>_ | none=>none)=_;simp only [aC,hH,TO.av,nM hid,zaa,zaW];rw [zah (by simp),show cy (s.st g).H id=fl from hn];by_cases hf:fl.free=true
    ·rw [if_pos ⟨trivial,gk (cT hg u).bD l,hf⟩,if_pos hf];rfl
    ·rw [if_neg (fun h=>hf h.2.2),if_neg hf]
   split at h
   ·rename_i hf;injection h with h;subst h
    obtain ⟨e1,e2⟩:=BL (g:=g) (o':= .dead) hid t (.aQ u l);refine ⟨?_,e2⟩;rw [aD,hfz,if_pos hf,e1];rfl
   ·rename_i hf;injection h with h;subst h
    refine ⟨?_,rfl⟩;rw [aD,hfz,if_neg hf]
  ·rename_i fl sz es hid;have hH:=bl (g:=g) hid;have hn:cy (s.Hv g) id=fl:=by unfold cy;rw [hH];rfl
   have hl:s.ln id=es.length:=by unfold DS.ln ju;rw [hid];rfl
   have hfz:jK es=true\/fl.free=false->pM t (s.st g)=if fl.free=true then some ⟨(s.tm g).put t (.ro (TV.cV g s.ln es)),(s.Hv g).set id .dead⟩ else none:=by
    intro hfr;unfold pM;rw [aL];show (match aC (s.Hv g) id with | some (_,es)=>_ | none=>none)=_;have hle:(TV.cV g s.ln es).length=es.length:=by rw [bu,zaa]
    simp only [aC,hH,TO.av,hl,hle,zaW];rw [zah (by rw [hle];exact za7 _),show cy (s.st g).H id=fl from hn];by_cases hf:fl.free=true
    ·rw [if_pos ⟨trivial,fR hg s.ln es (by rcases hfr with h | h;exact h;rw [hf] at h;cases h),hf⟩,if_pos hf];rfl
    ·rw [if_neg (fun h=>hf h.2.2),if_neg hf]
   split at h
   ·rename_i hf;split at h
    ·rename_i hc;rw [za0] at hc;injection h with h;subst h
     obtain ⟨e1,e2⟩:=BL (g:=g) (o':= .dead) hid t (.o4 es);refine ⟨?_,e2⟩;rw [aD,hfz (.inl hc.1),if_pos hf,e1];show some (⟨_,_⟩:ST)=some ⟨(s.tm g).put t (.ro _),_⟩;rw [fV es hc.2];rfl
    ·split at h
     case h_2=>cases h
     rename_i hb;injection h with h;subst h
     refine ⟨?_,rfl⟩;have hle:(TV.cV g s.ln es).length=es.length:=by rw [bu,zaa]
     have:pM t (s.st g)=none:=by
      unfold pM;rw [aL];show (match aC (s.Hv g) id with | some (_,es)=>_ | none=>none)=_;simp only [aC,hH,TO.av,hl,hle,zaW];rw [zah (by rw [hle];exact za7 _),if_neg];intro hc;rw [tC hg hb] at hc
      cases hc.2.1
     rw [aD,this]
   ·rename_i hf;injection h with h;subst h
    refine ⟨?_,rfl⟩;rw [aD,hfz (.inr (by simpa using hf)),if_neg hf]
  ·cases h
 ·rename_i v hv;split at h
  case isFalse=>cases h
  rename_i hc;injection h with h;subst h
  refine ⟨other rfl ?_,rfl⟩;rcases (zat _ _).mp hc with hc | hc
  ·exact lU hc
  ·exact Iq hc
theorem JV (b:Nat) (s:ST) (t:Nat):aD b s (.uc t)=aD 0 s (.uc t):=rfl
theorem Oz {g:Ge G} (hg:g.Ok) {s s':DS G} {b t:Nat} (h:LR s t=some s'):aD b (s.st g) (.nq t)=some (s'.st g)/\s'.FR g=s.FR g:=by
 have aL:(s.st g).tmps.get t=(s.get t).av g s.ln:=DS.ij g s t;have other:(∀ id,(s.get t).av g s.ln≠ .aJ id 1 0 0)->aD b (s.st g) (.nq t)=some (s.st g):=by
  intro hn;have:lz t (s.st g)=none:=by
   unfold lz;rw [aL];split
   ·rename_i e;exact (hn _ e).elim
   ·rfl
  simp only [aD,this]
 unfold LR at h;split at h
 ·rename_i id o hv;split at h
  ·rename_i ho;have ho:=za3 ho;subst ho;split at h
   case h_2=>cases h
   rename_i cs hid;have hH:=bl (g:=g) hid;split at h
   case isFalse=>
    split at h
    case h_2=>cases h
    rename_i hb;injection h with h;subst h
    have:lz t (s.st g)=none:=by
     unfold lz;rw [aL,hv];show (match (s.Hv g)[id]? with | some (.live .norm _ [cs])=>_ | _=>none)=_;rw [hH];show (if AV.aR 0 (TV.aP g s.ln cs)=true then _ else none)=_;rw [if_neg (by rw [jS hg cs false hb];exact fun e=>(nomatch e))]
    exact ⟨by simp only [aD,this],rfl⟩
   rename_i hc;rw [za0] at hc;injection h with h;subst h
   obtain ⟨k1,k2,k3,k4⟩:=eP (g:=g) (o':= .dead) hid rfl;have:lz t (s.st g)=some ⟨(s.tm g).put t (.bR (TV.aP g s.ln cs)),(s.Hv g).set id .dead⟩:=by
    unfold lz;rw [aL,hv];show (match (s.Hv g)[id]? with | some (.live .norm _ [cs])=>_ | _=>none)=_;rw [hH];show (if AV.aR 0 (TV.aP g s.ln cs)=true then _ else none)=_;rw [if_pos (eG hg s.ln cs hc.1)];rfl
   refine ⟨?_,by rw [DS.sP,k3]⟩;rw [aD,this];show some (⟨_,_⟩:ST)=some ⟨DS.tm g _,DS.Hv g _⟩;rw [DS.sQ,DS.wF,k2,k4,k1];rfl
  ·rename_i ho;injection h with h;subst h
   refine ⟨other ?_,rfl⟩;intro id' e;rw [hv] at e;injection e with _ _ _ e;subst e
   exact ho rfl
 ·split at h
  case isFalse=>cases h
  rename_i hn;injection h with h;subst h
  exact ⟨other (fun id=>oB hn id 1 0 0),rfl⟩
theorem OA {g:Ge G} (hg:g.Ok) {s s':DS G} {b t sz:Nat} (h:LV s t sz=some s'):aD b (s.st g) (.prom t sz)=some (s'.st g)/\s'.FR g=s.FR g:=by
 have aL:(s.st g).tmps.get t=(s.get t).av g s.ln:=DS.ij g s t;have other:(s.get t).av g s.ln≠ .bF->aD b (s.st g) (.prom t sz)=some (s.st g):=by
  intro hn;rw [aD,aL];split
  ·rename_i e;exact (hn e).elim
  ·rfl
 unfold LV at h;split at h
 ·rename_i v hv;split at h
  ·split at h
   case isFalse=>cases h
   rename_i hf;injection h with h;subst h
   obtain ⟨k1,k2,k3⟩:=fq (g:=g) hf;have u6:=jr (kK hf) (TO.cQ .nil sz ([]:List (List (TV G))));refine ⟨?_,by rw [DS.sP,k2]⟩;rw [aD,aL,hv];show some (⟨(s.tm g).put t (.own (s.Hv g).length 0 0 0),s.Hv g++[.live .nil sz []]⟩:ST)=some ⟨DS.tm g _,DS.Hv g _⟩;rw [DS.sQ,DS.wF,k1,k3,fG];show _=some (⟨(s.tm g).put t (.own s.H.length (DS.ln _ s.H.length) 0 (DS.ln _ s.H.length)),_⟩:ST);rw [u6];unfold putObj;rw [fG,if_neg (zc0 _)];rfl
  ·rename_i hne;injection h with h;subst h
   refine ⟨other ?_,rfl⟩;rw [hv];exact hne
 ·split at h
  case isFalse=>cases h
  rename_i hn;injection h with h;subst h
  exact ⟨other (z7 hn),rfl⟩
theorem EU {g:Ge G} {s:DS G} {id:Nat} {cs:List (TV G)} (hid:s.H[id]?=some (.box cs)):aC (s.Hv g) id=some (cs.length,[TV.aP g s.ln cs]):=by
 unfold aC;rw [bl hid];rfl
theorem rX {g:Ge G} {s:DS G} {id o:Nat} {cs:List (TV G)} (hid:s.H[id]?=some (.box cs)) {v:TV G} (hv:cs[o]?=some v):loadAt (s.Hv g) 1 false (.aJ id 1 0 o)=some (v.av g s.ln):=by
 simp only [loadAt,EU hid,zaA,if_true,zaq];exact fK (n:=1) (ag:=false) (cs:=cs) (o:=o) hv
theorem JW {g:Ge G} (hg:g.Ok) {s s':DS G} {b t off sz:Nat} (h:F7 s t off sz=some s'):aD b (s.st g) (.pz t off sz)=some (s'.st g)/\s'.FR g=s.FR g:=by
 have aL:(s.st g).tmps.get t=(s.get t).av g s.ln:=DS.ij g s t;unfold F7 at h;split at h
 ·rename_i id o hv;have aL:(s.st g).tmps.get t= .aJ id 1 0 o:=by rw [aL,hv];rfl
  split at h
  case h_2=>cases h
  rename_i cs hid;have rest:∀ {v:TV G},cs[o+off]?=some v->v.av g s.ln≠ .bF->aD b (s.st g) (.pz t off sz)=some (s.st g):=by
   intro v h1 h2;have hl:loadAt (s.st g).H 1 false (.aJ id 1 0 (o+off))=some (v.av g s.ln):=rX hid h1;rw [aD,aL];dsimp only;rw [hl];split
   ·rename_i e;injection e with e;exact (h2 e).elim
   ·rfl
  split at h
  ·rename_i v hcs;split at h
   ·split at h
    case isFalse=>cases h
    rename_i hf;injection h with h;subst h
    obtain ⟨k1,k2,k3⟩:=fq (g:=g) hf;have hle:=kK hf;have u6:=jr hle (TO.cQ .nil sz ([]:List (List (TV G))));have Vo:id < s.H.length:=(zab.1 hid).1;have di:(s.dL s.H.length (.cQ .nil sz [])).H[id]?=some (.box cs):=by
     unfold DS.dL;dsimp only;rw [if_neg (zc0 _),zai Vo,hid]
    have hH':(s.dL s.H.length (.cQ .nil sz [])).Hv g=s.Hv g++[.live .nil sz []]:=by
     rw [k3];unfold putObj;rw [fG,if_neg (zc0 _)];rfl
    obtain ⟨e1,e2,e3,e4⟩:=eP (g:=g) (o':= .box (cs.set (o+off) (.own s.H.length))) di rfl;refine ⟨?_,by rw [e3,k2]⟩;have hl:loadAt (s.st g).H 1 false (.aJ id 1 0 (o+off))=some .bF:=rX hid hcs;have ho:o+off < cs.length:=(zab.1 hcs).1;have hst:storeAt ((s.st g).H++[.live .nil sz []]) 1 (.aJ id 1 0 (o+off)) (.own (s.st g).H.length 0 0 0)=some (((s.dL s.H.length (.cQ .nil sz [])).gV id (.box (cs.set (o+off) (.own s.H.length)))).Hv g):=by
     show storeAt (s.Hv g++[.live .nil sz []]) 1 _ (.own (s.Hv g).length 0 0 0)=_;rw [<-hH',e4];have hg2:=bl (g:=g) di;simp only [storeAt,aC,hg2,TO.av,zaA,cy,AV.cells];rw [if_pos ⟨trivial,trivial,by omega,rfl,rfl⟩];simp only [zaq,zbh,putAt,zbb];have:TV.aP g (s.dL s.H.length (.cQ .nil sz [])).ln (cs.set (o+off) (.own s.H.length))=(TV.aP g (s.dL s.H.length (.cQ .nil sz [])).ln cs).set (o+off) (.own (s.Hv g).length 0 0 0):=by
      rw [bV,bV,zbS,fG];show _=List.set _ _ _;congr 1;show AV.own s.H.length (DS.ln _ s.H.length) 0 (DS.ln _ s.H.length)=_;rw [u6];rfl
     rw [this]
    rw [aD,aL];dsimp only;rw [hl];dsimp only;rw [hst];show some (⟨s.tm g,_⟩:ST)=some ⟨DS.tm g _,DS.Hv g _⟩;rw [e2,k1]
   ·rename_i hne;injection h with h;subst h
    exact ⟨rest hcs hne,rfl⟩
  ·rename_i v hne hcs;split at h
   case isFalse=>cases h
   rename_i hn;injection h with h;subst h
   exact ⟨rest hcs (z7 hn),rfl⟩
  ·cases h
 ·split at h
  case isFalse=>cases h
  rename_i hn;injection h with h;subst h
  refine ⟨?_,rfl⟩;rw [aD,aL];split
  ·rename_i e;exact (oB hn _ _ _ _ e).elim
  ·rfl
theorem JX {H:List Obj} {id n o:Nat} {cs:List AV} {v:AV} (hH:H[id]?=some (.live .norm n [cs])) (ho:o+1<=n) (hv:v.cells=[v]) (h1:v.one=true):storeAt H 1 (.aJ id 1 0 o) v=some (H.set id (.live .norm n [cs.set o v])):=by
 have ha:aW [v]=true:=by simp [aW,h1]
 simp only [storeAt,aC,hH,cy,hv,zaA];rw [if_pos ⟨trivial,trivial,ho,ha,rfl⟩];simp [putAt]
theorem OB {g:Ge G} (hg:g.Ok) {s s':DS G} {b t off:Nat} (h:LS s t off=some s'):aD b (s.st g) (.yX t off)=some (s'.st g)/\s'.FR g=s.FR g:=by
 have aL:(s.st g).tmps.get t=(s.get t).av g s.ln:=DS.ij g s t;unfold LS at h;split at h
 ·rename_i id o hv;have aL:(s.st g).tmps.get t= .aJ id 1 0 o:=by rw [aL,hv];rfl
  split at h
  case h_2=>cases h
  rename_i cs hid;split at h
  ·rename_i j hcs;split at h
   ·cases h
   rename_i hj;have hj:j≠id:=by rintro rfl;simp at hj
   have uc:∀ {ob:TO G} {fl:Fl} {sz:Nat} {es:List (List AV)},s.H[j]?=some ob->ob.av g s.ln (s.FR g)= .live fl sz es->ob.len=es.length->AV.bO 0 es=true->
    loadAt (s.st g).H 1 false (.aJ id 1 0 (o+off))=some (.own j es.length 0 es.length)/\ko 0 ⟨[.own j es.length 0 es.length],(s.st g).H⟩=if fl.free=true then some ⟨[.ro es],(s.Hv g).set j .dead⟩ else none:=by
    intro ob fl sz es yZ h1 h2 h3;have e:s.ln j=es.length:=by unfold DS.ln ju;rw [yZ];exact h2
    have hH:(s.Hv g)[j]?=some (.live fl sz es):=by rw [bl yZ,h1]
    have hn:cy (s.Hv g) j=fl:=by unfold cy;rw [hH]
    refine ⟨?_,?_⟩
    ·have:=rX (g:=g) hid hcs;rw [show (TV.own j:TV G).av g s.ln= .own j (s.ln j) 0 (s.ln j) from rfl,e] at this;exact this
    ·unfold ko;show (match aC (s.Hv g) j with | some (_,es)=>_ | none=>none)=_;simp only [aC,hH,zaW];rw [zah (za7 _),show cy (s.st g).H j=fl from hn];by_cases hf:fl.free=true
     ·rw [if_pos ⟨trivial,h3,hf⟩,if_pos hf];rfl
     ·rw [if_neg (fun h=>hf h.2.2),if_neg hf]
   have go:∀ {ob:TO G} {fl:Fl} {sz:Nat} {es:List (List AV)} {v:TV G},s.H[j]?=some ob->ob.av g s.ln (s.FR g)= .live fl sz es->ob.len=es.length->AV.bO 0 es=true->fl.free=true->v.av g (s.cY j .dead).ln= .ro es->
    HL s id j (o+off) cs.length v=some s'->aD b (s.st g) (.yX t off)=some (s'.st g)/\s'.FR g=s.FR g:=by
    intro ob fl sz es v yZ h1 h2 h3 hf hv h;obtain ⟨hl,hfz⟩:=uc yZ h1 h2 h3;unfold HL at h;split at h
    case h_2=>cases h
    rename_i cs' di;split at h
    case isFalse=>cases h
    rename_i hlen;have hlen:=za3 hlen;injection h with h;subst h
    obtain ⟨k1,k2,k3,k4⟩:=ry (g:=g) (o':= .dead) yZ;obtain ⟨e1,e2,e3,e4⟩:=eP (g:=g) (o':= .box (cs'.set (o+off) v)) di rfl;refine ⟨?_,by rw [e3,k3]⟩;have hg2:=bl (g:=g) di;rw [k4] at hg2;have ho:o+off < cs.length:=(zab.1 hcs).1;have hst:storeAt ((s.Hv g).set j .dead) 1 (.aJ id 1 0 (o+off)) (.ro es)=some (((s.cY j .dead).gV id (.box (cs'.set (o+off) v))).Hv g):=by
     rw [e4,k4];rw [JX (show ((s.Hv g).set j .dead)[id]?=some (.live .norm cs'.length [TV.aP g (s.cY j .dead).ln cs']) from hg2) (by omega) rfl rfl];simp only [TO.av,zbb];have:TV.aP g (s.cY j .dead).ln (cs'.set (o+off) v)=(TV.aP g (s.cY j .dead).ln cs').set (o+off) (.ro es):=by
      rw [bV,bV,zbS,hv]
     rw [this]
    rw [aD,aL];dsimp only;rw [hl];dsimp only;rw [if_neg hj,hfz,if_pos hf];dsimp only;rw [hst];show some (⟨s.tm g,_⟩:ST)=some ⟨DS.tm g _,DS.Hv g _⟩;rw [e2,k2]
   split at h
   ·rename_i fl u l yZ;split at h
    ·rename_i hf;exact go yZ rfl (by simp [TO.len]) (gk (cT hg u).bD l) hf rfl h
    ·rename_i hf;injection h with h;subst h
     obtain ⟨hl,hfz⟩:=uc yZ rfl (by simp [TO.len]) (gk (cT hg u).bD l);refine ⟨?_,rfl⟩;rw [aD,aL];dsimp only;rw [hl];dsimp only;rw [if_neg hj,hfz,if_neg hf]
   ·rename_i fl sz es yZ;split at h
    case isFalse=>cases h
    rename_i hf;simp only [za0] at hf;refine go yZ rfl (by simp [TO.len,bu]) (fR hg s.ln es hf.2.1) hf.1 ?_ h;show AV.ro _=AV.ro _;rw [fV es hf.2.2]
   ·cases h
  ·rename_i v hne hcs;split at h
   case isFalse=>cases h
   rename_i hn;injection h with h;subst h
   refine ⟨?_,rfl⟩;have hl:loadAt (s.st g).H 1 false (.aJ id 1 0 (o+off))=some (v.av g s.ln):=rX hid hcs;rw [aD,aL];dsimp only;rw [hl];split
   ·rename_i e;injection e with e;exact (lU hn _ _ _ _ e).elim
   ·rfl
  ·cases h
 ·split at h
  case isFalse=>cases h
  rename_i hn;injection h with h;subst h
  refine ⟨?_,rfl⟩;rw [aD,aL];split
  ·rename_i e;exact (oB hn _ _ _ _ e).elim
  ·rfl
theorem JY {g:Ge G} (hg:g.Ok) {s s':DS G} {b n:Nat} (h:F8 s (b+n)=some s'):aD b (s.st g) (.ku n)=some (s'.st g)/\s'.FR g=s.FR g:=by
 have hlen:(s.st g).H.length=s.H.length:=fG g s;unfold F8 at h;split at h
 ·rename_i hb;have keep:(T.aR (b+n) (s.st g).tmps&&bT (b+n) ((s.st g).H.take (b+n)))=false->aD b (s.st g) (.ku n)=some (s.st g):=by
   intro hx;rw [aD,hx,Bool.and_false];rfl
  split at h
  ·rename_i uL;have h1:T.aR (b+n) (s.st g).tmps=true:=nS hg uL;split at h
   ·rename_i hO;have h2:bT (b+n) ((s.st g).H.take (b+n))=true:=by
     show bT (b+n) ((s.H.map _).take (b+n))=true;rw [<-zbH];exact eO hg (vk hg) hO
    split at h
    case isFalse=>cases h
    rename_i hF;injection h with h;subst h
    have hl:∀ j,j < b+n->(s.Ba (b+n)).ln j=s.ln j:=by
     intro j hj;unfold DS.ln ju DS.Ba;dsimp only;rw [zbn,if_pos hj]
    have yM:(s.Ba (b+n)).FR g=s.FR g:=z6 hl hF;refine ⟨?_,yM⟩;rw [aD,hlen,hb,h1,h2];show some (⟨s.tm g,(s.Hv g).take (b+n)⟩:ST)=some ⟨(s.Ba (b+n)).tm g,(s.Ba (b+n)).Hv g⟩;have e1:(s.Ba (b+n)).tm g=s.tm g:=by
     show (⟨s.sz,_⟩:T)=⟨s.sz,_⟩;rw [show (s.Ba (b+n)).sl=s.sl from rfl,qm hl uL]
    have e2:(s.Ba (b+n)).Hv g=(s.Hv g).take (b+n):=by
     unfold DS.Hv;rw [yM];show (s.H.take (b+n)).map _=_;rw [dH hl hO,zbH]
    rw [e1,e2]
   ·rename_i hO;injection h with h;subst h
    refine ⟨?_,rfl⟩;have h2:bT (b+n) ((s.st g).H.take (b+n))=false:=by
     show bT (b+n) ((s.H.map _).take (b+n))=false;rw [<-zbH];exact eO hg (vk hg) hO
    exact keep (by rw [h2,Bool.and_false])
   ·cases h
  ·rename_i uL;injection h with h;subst h
   have h1:T.aR (b+n) (s.st g).tmps=false:=nS hg uL;exact ⟨keep (by rw [h1,Bool.false_and]),rfl⟩
  ·cases h
 ·rename_i hb;injection h with h;subst h
  refine ⟨?_,rfl⟩;have hb':Nat.blt (b+n) s.H.length=false:=Bool.eq_false_iff.2 hb;rw [aD,hlen,hb',Bool.false_and];rfl
theorem Iv {g:Ge G} (hg:g.Ok) (hw:g.Wk) {s s':DS G} {b:Nat} {a:GA} (h:K9 g b s a=some s'):aD b (s.st g) a=some (s'.st g)/\s'.FR g=s.FR g:=by
 have aL:∀ t,(s.st g).tmps.get t=(s.get t).av g s.ln:=fun t=>DS.ij g s t
 cases a with
 | kill l=>
  injection h with h;subst h
  obtain ⟨e1,e2⟩:=It (g:=g) (l:=l) (s:=s);exact ⟨by rw [aD,e1];rfl,e2⟩
 | wk l=>
  obtain ⟨e1,e2⟩:=Ir hg hw h;exact ⟨by rw [aD,e1],e2⟩
 | ku n=>exact JY hg h
 | uc t=>rw [JV];exact RP hg h
 | nq t=>exact Oz hg h
 | yX t off=>exact OB hg h
 | prom t sz=>exact OA hg h
 | pz t off sz=>exact JW hg h
 | sh t=>
  unfold K9 at h;dsimp only at h;split at h
  case isFalse=>cases h
  rename_i hn;injection h with h;subst h
  refine ⟨?_,rfl⟩;rw [aD,aL];split
  ·rename_i e;exact (lU hn _ _ _ _ e).elim
  ·rfl
 | res t=>
  unfold K9 at h;dsimp only at h;split at h
  case isFalse=>cases h
  rename_i hn;injection h with h;subst h
  refine ⟨?_,rfl⟩;rw [aD,aL];split
  ·rename_i e;exact (lU hn _ _ _ _ e).elim
  ·rfl
 | cut t=>cases h
theorem Bq {g:Ge G} (hg:g.Ok) (hw:g.Wk) {b:Nat}:∀ {l:List GA} {s s':DS G},Fk g b l s=some s'->cF b l (s.st g)=some (s'.st g)/\s'.FR g=s.FR g
 | [],s,s',h=>by injection h with h;subst h;exact ⟨rfl,rfl⟩
 | a::r,s,s',h=>by
  rw [Fk] at h;split at h
  case h_2=>cases h
  rename_i s1 h1;obtain ⟨e1,e2⟩:=Iv hg hw h1;obtain ⟨e3,e4⟩:=Bq hg hw h;exact ⟨by rw [cF,e1];exact e3,by rw [e4,e2]⟩
def Vp {R:Type} (b:Nat) (s:DS G) (t:Nat) (c:DS G->Option R):Option R:=match s.get t with
 | .raw v=>(match v with
  | .own id ext off len=>(match s.H[id]? with
   | some (.aQ fl u l)=>if decide (fl= .norm)&&((Nat.beq off 0&&Nat.beq len 0)&&(Nat.ble b id&&Nat.beq (id+1) s.H.length)) then
    (match pA id (s.put t (.raw .any)).sl,gz id (CQ id s.fr) (s.H.take id) with
     | some true,some true=>if ext=l.length then c ((s.cY id (.aQ .norm u [])).put t (.own id)) else none
     | _,_=>none) else none
   | _=>none)
  | _=>none)
 | _=>none
theorem RQ {R:Type} {g:Ge G} (hg:g.Ok) {b:Nat} {s:DS G} {t:Nat} {c:DS G->Option R} {r:R} (h:Vp b s t c=some r):
 ∃ s',aD b (s.st g) (.cut t)=some (s'.st g)/\s'.FR g=s.FR g/\c s'=some r:=by
 have aL:(s.st g).tmps.get t=(s.get t).av g s.ln:=DS.ij g s t;unfold Vp at h;split at h
 case h_2=>cases h
 rename_i v hv;split at h
 case h_2=>cases h
 rename_i id ext off len;split at h
 case h_2=>cases h
 rename_i fl u l hid;split at h
 case isFalse=>cases h
 rename_i hc;simp only [za0,decide_eq_true_eq] at hc;obtain ⟨h1,⟨h2,h3⟩,h4,h5⟩:=hc;subst h1;have h2:=za3 h2;have h3:=za3 h3;have h5':=za3 h5;subst h2;subst h3;split at h
 case h_2=>cases h
 rename_i uL hO;split at h
 case isFalse=>cases h
 rename_i he;subst he;have u6:(s.cY id (.aQ .norm u [])).ln id=0:=(ry (g:=g) (o':= .aQ .norm u []) hid).1;obtain ⟨k1,k2⟩:=BL (g:=g) (o':= .aQ .norm u []) hid t (.own id);refine ⟨_,?_,k2,h⟩;have hH:(s.st g).H[id]?=some (.live .norm (u.n g) (l.map (enc g u))):=bl (g:=g) hid;have b1:T.aR id ((s.st g).tmps.put t .any)=true:=by
  have:T.aR id ((s.put t (.raw .any)).tm g)=true:=nS hg uL
  rwa [DS.sQ] at this
 have b2:bT id ((s.st g).H.take id)=true:=by
  show bT id ((s.H.map _).take id)=true;rw [<-zbH];exact eO hg (vk hg) hO
 have b3:AV.bO id (l.map (enc g u))=true:=qo (cT hg u).bD id l;have b4:(s.st g).H.length=s.H.length:=fG g s;rw [aD,aL,hv];show (match (s.st g).H[id]? with | some (.live .norm sz es)=>_ | _=>none)=_;rw [hH];dsimp only;rw [if_pos (by rw [b1,b2,b3,b4,h4,h5,zaa];simp [Nat.beq_eq,Nat.ble_eq])];rw [k1];simp only [TV.av,u6,List.take_zero,TO.av,List.map_nil];rfl
def TT:GA->Option Nat
 | .cut t=>some t
 | _=>none
theorem OC {a:GA} {t:Nat} (h:TT a=some t):a= .cut t:=by
 cases a with
 | cut t'=>injection h with h;rw [h]
 | _=>cases h
def X0 {R:Type} (g:Ge G) (b:Nat):List GA->DS G->(DS G->Option R)->Option R
 | [],s,c=>c s
 | a::r,s,c=>(match TT a with
  | some t=>Vp b s t fun s'=>X0 g b r s' c
  | none=>(match K9 g b s a with | some s'=>X0 g b r s' c | none=>none))
theorem F9 {R:Type} {g:Ge G} (hg:g.Ok) (hw:g.Wk) {b:Nat} {c:DS G->Option R} {r:R}:∀ {l:List GA} {s:DS G},X0 g b l s c=some r->
 ∃ s',cF b l (s.st g)=some (s'.st g)/\s'.FR g=s.FR g/\c s'=some r
 | [],s,h=>⟨s,rfl,rfl,h⟩
 | a::l,s,h=>by
  rw [X0] at h;split at h
  ·rename_i t ht;rw [OC ht];obtain ⟨s1,e1,e2,h⟩:=RQ hg h;obtain ⟨s2,e3,e4,h⟩:=F9 hg hw h;exact ⟨s2,by rw [cF,e1];exact e3,by rw [e4,e2],h⟩
  ·split at h
   case h_2=>cases h
   rename_i s1 h1;obtain ⟨e1,e2⟩:=Iv hg hw h1;obtain ⟨s2,e3,e4,h⟩:=F9 hg hw h;exact ⟨s2,by rw [cF,e1];exact e3,by rw [e4,e2],h⟩
end
end oe
