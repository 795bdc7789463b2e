/- Typed states: ghost steps. No condition. -/
import Derived.Test.YtafgdbaekppjcaaGreatDoorDnG
set_option linter.unusedSectionVars false
set_option linter.unusedVariables false
set_option linter.unusedSimpArgs false
namespace nT
open Go hiding Obj mark
open Go.Pl Go.Am Go.Am.As
set_option linter.unusedVariables false
section
variable {G:Nat->Type} {R:Type}
mutual
def yO (m:Nat):TV G->Option Bool
 | .own i=>some (Nat.blt i m)
 | .po i _=>some (Nat.blt i m)
 | .pe i _ _=>some (Nat.blt i m)
 | .pa i _ _ _=>some (Nat.blt i m)
 | .sa i _ _ _ _=>if Nat.blt i m then some true else none
 | .agg l=>mj m l
 | .bk l=>mj m l
 | .fn _ l=>mj m l
 | .raw v=>some (v.bA m)
 | .bV l=>if gF l then some true else none
 | .oY es=>if iB es then some true else none
 | _=>some true
def mj (m:Nat):List (TV G)->Option Bool
 | []=>some true
 | x::xs=>(match yO m x with
  | some a=>(match mj m xs with | some b=>some (a&&b) | none=>none)
  | none=>none)
end
theorem oO {n:Nat} {l:List AV} (h:AV.aS 0 l=true):AV.aS n l=true:=fL (Nat.zero_le n) l h
theorem oy (i m:Nat):Nat.blt i m=decide (i < m):=by
 cases h:Nat.blt i m with
 | true=>have:i < m:=by simpa [Nat.blt_eq] using h
         simp [this]
 | false=>have:¬ i < m:=by intro hc;rw [show Nat.blt i m=true by simpa [Nat.blt_eq] using hc] at h;cases h
          simp [this]
mutual
theorem EI {g:Ge G} (hg:g.Ok) {ln:Nat->Nat} {m:Nat}:∀ (v:TV G) (b:Bool),yO m v=some b->(v.av g ln).bA m=b
 | .own i,b,h=>by injection h with h;rw [<-h,oy];rfl
 | .po i o,b,h=>by injection h with h;rw [<-h,oy];rfl
 | .pe i n o,b,h=>by injection h with h;rw [<-h,oy];rfl
 | .pa i sz n o,b,h=>by injection h with h;rw [<-h,oy];rfl
 | .sa i lo len _ _,b,h=>by
  rw [yO] at h;split at h
  ·rename_i hc;injection h with h;subst h
   show AV.bA m (if len=0 then .ro [] else .arr i 1 0 lo 1 len)=true;split
   ·rfl
   ·rw [oy] at hc;exact hc
  ·cases h
 | .agg l,b,h=>ji hg l b h
 | .bk l,b,h=>ji hg l b h
 | .fn _ l,b,h=>ji hg l b h
 | .raw v,b,h=>by injection h with h
 | .int _ _,b,h | .bool _,b,h | .str _,b,h | .bg _ _,b,h=>by injection h with h
 | .bV l,b,h=>by
  rw [yO] at h;split at h
  ·injection h with h
  ·cases h
 | .oY l,b,h=>by
  rw [yO] at h;split at h
  ·injection h with h
  ·cases h
 | .fS t o,b,h=>by injection h with h;subst h;cases o<;>rfl
 | .dB t o,b,h=>by injection h with h;subst h;cases o<;>rfl
 | .arr n t a,b,h=>by injection h with h;subst h;exact oO ((cR hg (.arr n t)).bA a)
theorem ji {g:Ge G} (hg:g.Ok) {ln:Nat->Nat} {m:Nat}:∀ (l:List (TV G)) (b:Bool),mj m l=some b->AV.aS m (TV.aR g ln l)=b
 | [],b,h=>by injection h with h
 | x::l,b,h=>by
  rw [mj] at h;split at h
  case h_2=>cases h
  rename_i p hp;split at h
  case h_2=>cases h
  rename_i q hq;injection h with h;subst h
  simp only [TV.aR,AV.aS,EI hg x p hp,ji hg l q hq]
end
mutual
theorem A6 {g:Ge G} {ln cj:Nat->Nat} {m:Nat} (hl:∀ j,j < m->cj j=ln j):∀ (v:TV G),yO m v=some true->v.av g cj=v.av g ln
 | .own i,h=>by
  injection h with h;rw [oy,decide_eq_true_eq] at h
  rw [TV.av,TV.av,hl i h]
 | .pe i n o,h=>by
  injection h with h;rw [oy,decide_eq_true_eq] at h
  rw [TV.av,TV.av,hl i h]
 | .agg l,h=>by rw [TV.av,TV.av,iJ hl l h]
 | .bk l,h=>by rw [TV.av,TV.av,iJ hl l h]
 | .fn _ l,h=>by rw [TV.av,TV.av,iJ hl l h]
 | .int _ _,h | .bool _,h | .str _,h | .bg _ _,h | .fS _ _,h | .arr ..,h | .dB ..,h | .raw _,h | .po ..,h | .pa ..,h | .sa ..,h=>rfl
 | .oY es,h=>by
  rw [yO] at h;split at h
  ·rename_i hc;rw [TV.av,TV.av,fD es hc]
  ·cases h
 | .bV l,h=>by
  rw [yO] at h;split at h
  ·rename_i hc;rw [TV.av,TV.av,eu l hc]
  ·cases h
theorem iJ {g:Ge G} {ln cj:Nat->Nat} {m:Nat} (hl:∀ j,j < m->cj j=ln j):∀ (l:List (TV G)),mj m l=some true->TV.aR g cj l=TV.aR g ln l
 | [],_=>rfl
 | x::l,h=>by
  rw [mj] at h;split at h
  case h_2=>cases h
  rename_i p hp;split at h
  case h_2=>cases h
  rename_i q hq;injection h with h
  rw [Bool.and_eq_true] at h;rw [h.1] at hp;rw [h.2] at hq;rw [TV.aR,TV.aR,A6 hl x hp,iJ hl l hq]
end
def nX (m:Nat):List (Nat×TV G)->Option Bool
 | []=>some true
 | x::xs=>(match yO m x.2 with
  | some a=>(match nX m xs with | some b=>some (a&&b) | none=>none)
  | none=>none)
theorem mM {g:Ge G} (hg:g.Ok) {ln:Nat->Nat} {m:Nat}:∀ {l:List (Nat×TV G)} {b:Bool},nX m l=some b->T.kf m (dx g ln l)=b
 | [],b,h=>by injection h with h
 | x::l,b,h=>by
  rw [nX] at h;split at h
  case h_2=>cases h
  rename_i p hp;split at h
  case h_2=>cases h
  rename_i q hq;injection h with h;subst h
  show ((x.2.av g ln).bA m&&T.kf m (dx g ln l))=_;rw [EI hg _ p hp,mM hg hq]
theorem oP {g:Ge G} {ln cj:Nat->Nat} {m:Nat} (hl:∀ j,j < m->cj j=ln j):∀ {l:List (Nat×TV G)},nX m l=some true->dx g cj l=dx g ln l
 | [],_=>rfl
 | x::l,h=>by
  rw [nX] at h;split at h
  case h_2=>cases h
  rename_i p hp;split at h
  case h_2=>cases h
  rename_i q hq;injection h with h
  rw [Bool.and_eq_true] at h;rw [h.1] at hp;rw [h.2] at hq;show (x.1,_)::dx g cj l=(x.1,_)::dx g ln l;rw [A6 hl _ hp,oP hl hq]
def oz (m:Nat):List (List (TV G))->Option Bool
 | []=>some true
 | x::xs=>(match mj m x with
  | some a=>(match oz m xs with | some b=>some (a&&b) | none=>none)
  | none=>none)
theorem rH {g:Ge G} (hg:g.Ok) {ln:Nat->Nat} {m:Nat}:∀ {l:List (List (TV G))} {b:Bool},oz m l=some b->AV.bM m (TV.cU g ln l)=b
 | [],b,h=>by injection h with h
 | x::l,b,h=>by
  rw [oz] at h;split at h
  case h_2=>cases h
  rename_i p hp;split at h
  case h_2=>cases h
  rename_i q hq;injection h with h;subst h
  simp only [TV.cU,AV.bM,ji hg x p hp,rH hg hq]
theorem sw {g:Ge G} {ln cj:Nat->Nat} {m:Nat} (hl:∀ j,j < m->cj j=ln j):∀ {l:List (List (TV G))},oz m l=some true->TV.cU g cj l=TV.cU g ln l
 | [],_=>rfl
 | x::l,h=>by
  rw [oz] at h;split at h
  case h_2=>cases h
  rename_i p hp;split at h
  case h_2=>cases h
  rename_i q hq;injection h with h
  rw [Bool.and_eq_true] at h;rw [h.1] at hp;rw [h.2] at hq;rw [TV.cU,TV.cU,iJ hl _ hp,sw hl hq]
def gE (m:Nat) (fb:Bool):List (TO G)->Option Bool
 | []=>some true
 | .box l::r=>(match mj m l with
  | some a=>(match gE m fb r with | some b=>some (a&&b) | none=>none)
  | none=>none)
 | .cN _ _ es::r=>if jb es&&iB es then gE m fb r else (match oz m es with
  | some a=>(match gE m fb r with | some b=>some (a&&b) | none=>none)
  | none=>none)
 | .mix ..::r=>none
 | .lp ..::r=>if fb then gE m fb r else none
 | _::r=>gE m fb r
theorem J9 {g:Ge G} (hg:g.Ok) {ln:Nat->Nat} {m:Nat} {es:List (List (TV G))} (h:jb es=true):AV.bM m (TV.cU g ln es)=true:=by
 have h0:=fy hg ln es h;have:∀ {l:List (List AV)},AV.bM 0 l=true->AV.bM m l=true:=by
  intro l;induction l with
  | nil=>intro _;rfl
  | cons x l ih=>
   intro h;simp only [AV.bM,Bool.and_eq_true] at h ⊢;exact ⟨oO h.1,ih h.2⟩
 exact this h0
theorem Ka {m:Nat} {τ:T} (h:T.kf m τ.l=true):AV.aS m τ.toL=true:=by
 have h1:∀ (l:List (Nat×AV)),T.kf m l=true->∀ i,(T.eK l i).bA m=true:=by
  intro l;induction l with
  | nil=>intro _ i;simp [T.eK,AV.bA]
  | cons x r ih=>
   obtain ⟨k,v⟩:=x;intro h;simp only [T.kf,Bool.and_eq_true] at h;intro i;simp only [T.eK];by_cases hk:k=i
   ·simp [hk,h.1]
   ·simp [hk,ih h.2 i]
 rw [xx];intro i;rw [List.getD_eq_getElem?_getD];by_cases hi:i < τ.toL.length
 ·rw [List.getElem?_eq_getElem hi];simp only [T.toL,List.getElem_map,List.getElem_range,Option.getD_some];exact h1 _ h _
 ·rw [List.getElem?_eq_none (by omega)];simp [AV.bA]
theorem eT {g:Ge G} (hg:g.Ok) {ln:Nat->Nat} {F:List (T×C3)} {m:Nat} {fb:Bool} (hF:fb=true->∀ f∈F,T.kf m f.1.l=true):∀ {l:List (TO G)} {b:Bool},gE m fb l=some b->bZ m (l.map (TO.av g ln F))=b
 | [],b,h=>by injection h with h
 | .box l::r,b,h=>by
  rw [gE] at h;split at h
  case h_2=>cases h
  rename_i p hp;split at h
  case h_2=>cases h
  rename_i q hq;injection h with h;subst h
  show (AV.bM m [_]&&bZ m (r.map _))=_;rw [eT hg hF hq];simp only [AV.bM,ji hg _ p hp,Bool.and_true]
 | .cN fl sz es::r,b,h=>by
  rw [gE] at h;split at h
  ·rename_i hc;rw [Bool.and_eq_true] at hc;show (AV.bM m (TV.cU g ln es)&&bZ m (r.map _))=_;rw [eT hg hF h,J9 hg hc.1,Bool.true_and]
  ·split at h
   case h_2=>cases h
   rename_i p hp;split at h
   case h_2=>cases h
   rename_i q hq;injection h with h;subst h
   show (AV.bM m (TV.cU g ln es)&&bZ m (r.map _))=_;rw [eT hg hF hq,rH hg hp]
 | .bg fl t l::r,b,h=>by
  have h:gE m fb r=some b:=h;show (AV.bM m (l.map (enc g t))&&bZ m (r.map _))=_;rw [eT hg hF h,oQ (cR hg t).bA m l,Bool.true_and]
 | .arr n t a::r,b,h=>by
  have h:gE m fb r=some b:=h;show (AV.bM m [(List.map (enc g t) a.1).flatten]&&bZ m (r.map _))=_;rw [eT hg hF h];simp only [AV.bM,Bool.and_true];have e:AV.aS m (List.map (enc g t) a.1).flatten=true:=oO ((cR hg (.arr n t)).bA a);exact (congrArg (·&&b) e).trans (Bool.true_and b)
 | .dead::r,b,h=>by
  have h:gE m fb r=some b:=h;show (true&&bZ m (r.map _))=_;rw [eT hg hF h,Bool.true_and]
 | .gB::r,b,h=>by
  have h:gE m fb r=some b:=h;show (true&&bZ m (r.map _))=_;rw [eT hg hF h,Bool.true_and]
 | .wC ..::r,b,h=>by
  have h:gE m fb r=some b:=h;show (true&&bZ m (r.map _))=_;rw [eT hg hF h,Bool.true_and]
 | .fQ l::r,b,h=>by
  have h:gE m fb r=some b:=h;show (AV.CW m (l.map fun p=>(.str p.1,.int .i64 p.2))&&bZ m (r.map _))=_;rw [eT hg hF h];have:∀ l:List (List UInt8×Int),AV.CW m (l.map fun p=>(.str p.1,.int .i64 p.2))=true:=by
   intro l;induction l with
   | nil=>rfl
   | cons x l ih=>simp only [List.map_cons,AV.CW,AV.bA,ih,Bool.and_self]
  rw [this,Bool.true_and]
 | .lp ls fi::r,b,h=>by
  have h:(if fb then gE m fb r else none)=some b:=h;split at h
  case isFalse=>cases h
  rename_i hb;show (Obj.bA m (TO.av g ln F (.lp ls fi))&&bZ m (r.map _))=_;rw [eT hg hF h];have:Obj.bA m (TO.av g ln F (.lp ls fi))=true:=by
   show Obj.bA m (match F[fi]? with | some f=> .lp ls f.1.toL f.2.1 f.2.2.1 f.2.2.2 | none=> .dead)=true
   cases e:F[fi]? with
   | none=>rfl
   | some f=>exact Ka (hF hb f (List.mem_of_getElem? e))
  rw [this,Bool.true_and]
 | .mix ..::r,b,h=>by cases h
theorem dM {g:Ge G} {ln cj:Nat->Nat} {F:List (T×C3)} {m:Nat} {fb:Bool} (hl:∀ j,j < m->cj j=ln j):∀ {l:List (TO G)},gE m fb l=some true->l.map (TO.av g cj F)=l.map (TO.av g ln F)
 | [],_=>rfl
 | .box l::r,h=>by
  rw [gE] at h;split at h
  case h_2=>cases h
  rename_i p hp;split at h
  case h_2=>cases h
  rename_i q hq;injection h with h
  rw [Bool.and_eq_true] at h;rw [h.1] at hp;rw [h.2] at hq;show Obj.live _ _ [_]::r.map _=Obj.live _ _ [_]::r.map _;rw [iJ hl _ hp,dM hl hq]
 | .cN fl sz es::r,h=>by
  rw [gE] at h;split at h
  ·rename_i hc;rw [Bool.and_eq_true] at hc;show Obj.live _ _ _::r.map _=Obj.live _ _ _::r.map _;rw [fD es hc.2,dM hl h]
  ·split at h
   case h_2=>cases h
   rename_i p hp;split at h
   case h_2=>cases h
   rename_i q hq;injection h with h
   rw [Bool.and_eq_true] at h;rw [h.1] at hp;rw [h.2] at hq;show Obj.live _ _ _::r.map _=Obj.live _ _ _::r.map _;rw [sw hl hp,dM hl hq]
 | .bg fl t l::r,h=>by
  have h:gE m fb r=some true:=h;show _::r.map _=_::r.map _;rw [dM hl h];rfl
 | .arr n t a::r,h=>by
  have h:gE m fb r=some true:=h;show _::r.map _=_::r.map _;rw [dM hl h];rfl
 | .dead::r,h=>by
  have h:gE m fb r=some true:=h;show _::r.map _=_::r.map _;rw [dM hl h];rfl
 | .gB::r,h=>by
  have h:gE m fb r=some true:=h;show _::r.map _=_::r.map _;rw [dM hl h];rfl
 | .wC ..::r,h=>by
  have h:gE m fb r=some true:=h;show _::r.map _=_::r.map _;rw [dM hl h];rfl
 | .fQ ..::r,h=>by
  have h:gE m fb r=some true:=h;show _::r.map _=_::r.map _;rw [dM hl h];rfl
 | .lp ..::r,h=>by
  have h:(if fb then gE m fb r else none)=some true:=h;split at h
  case isFalse=>cases h
  show _::r.map _=_::r.map _;rw [dM hl h];rfl
 | .mix ..::r,h=>by cases h
def Al (m:Nat):List (Nat×List (Nat×TV G)×C3)->Bool
 | []=>true
 | f::r=>(match nX m f.2.1 with | some b=>b | none=>false)&&Al m r
theorem xN {g:Ge G} {ln cj:Nat->Nat} {m:Nat} (hl:∀ j,j < m->cj j=ln j):∀ {l:List (Nat×List (Nat×TV G)×C3)},Al m l=true->(l.map fun f=>((⟨f.1,dx g cj f.2.1⟩:T),f.2.2))=l.map fun f=>(⟨f.1,dx g ln f.2.1⟩,f.2.2)
 | [],_=>rfl
 | f::r,h=>by
  rw [Al,Bool.and_eq_true] at h;have h1:nX m f.2.1=some true:=by
   have:=h.1;split at this
   ·rename_i b hb;rw [hb,this]
   ·cases this
  rw [List.map_cons,List.map_cons,xN hl h.2,oP hl h1]
theorem tu {g:Ge G} (hg:g.Ok) {ln:Nat->Nat} {m:Nat}:∀ {l:List (Nat×List (Nat×TV G)×C3)},Al m l=true->∀ f∈(l.map fun f=>((⟨f.1,dx g ln f.2.1⟩:T),f.2.2)),T.kf m f.1.l=true
 | [],_,_,hf=>by cases hf
 | f::r,h,x,hx=>by
  rw [Al,Bool.and_eq_true] at h;have h1:nX m f.2.1=some true:=by
   have:=h.1;split at this
   ·rename_i b hb;rw [hb,this]
   ·cases this
  rcases List.mem_cons.mp hx with hx | hx
  ·subst hx;exact mM hg h1
  ·exact tu hg h.2 x hx
def qU:TV G->Bool
 | .own _=>false
 | .sa ..=>false
 | .raw v=>(match v with | .own ..=>false | _=>true)
 | _=>true
theorem kF {g:Ge G} {ln:Nat->Nat} {v:TV G} (h:qU v=true):∀ id e o l,v.av g ln≠ .own id e o l:=by
 intro id e o l hv
 cases v with
 | own i=>cases h
 | raw a=>simp only [TV.av] at hv;subst hv;cases h
 | fS t o=>cases o<;>cases hv
 | dB t o=>cases o<;>cases hv
 | sa i lo len=>cases h
 | _=>cases hv
def uo:TV G->Bool
 | .po .. | .pe .. | .pa ..=>false
 | .raw v=>(match v with | .ax ..=>false | _=>true)
 | _=>true
theorem nr {g:Ge G} {ln:Nat->Nat} {v:TV G} (h:uo v=true):∀ id e i o,v.av g ln≠ .ax id e i o:=by
 intro id e i o hv
 cases v with
 | po i o=>cases h
 | pe i n o=>cases h
 | pa i s n o=>cases h
 | raw a=>simp only [TV.av] at hv;subst hv;cases h
 | fS t o=>cases o<;>cases hv
 | dB t o=>cases o<;>cases hv
 | sa i lo len=>simp only [TV.av] at hv;split at hv<;>cases hv
 | _=>cases hv
def notNil:TV G->Bool
 | .fS ..=>false
 | .raw v=>(match v with | .bx=>false | _=>true)
 | _=>true
theorem xO {g:Ge G} {ln:Nat->Nat} {v:TV G} (h:notNil v=true):v.av g ln≠ .bx:=by
 intro hv
 cases v with
 | fS t o=>cases h
 | dB t o=>cases o<;>cases hv
 | raw a=>simp only [TV.av] at hv;subst hv;cases h
 | sa i lo len=>simp only [TV.av] at hv;split at hv<;>cases hv
 | _=>cases hv
def Ty.wk:Ty->Bool
 | .jH _=>false
 | .arr _ t=>t.wk
 | _=>true
end
def Ge.Wk {G:Nat->Type} (g:Ge G):Prop:=∀ i x,(g.enc i x).map AV.Fz=g.enc i x
section
variable {G:Nat->Type} {R:Type}
theorem uq {g:Ge G} (hw:g.Wk):∀ {t:Ty} (x:t.D G),t.wk=true->(enc g t x).map AV.Fz=enc g t x
 | .int _,_,_ | .bool,_,_ | .str,_,_ | .list _,_,_=>rfl
 | .jH _,_,h=>by cases h
 | .ptr _,_,_=>rfl
 | .dB _,o,_=>by cases o<;>rfl
 | .st i,x,_=>hw i x
 | .arr n t,a,h=>by
  show List.map AV.Fz (List.map (enc g t) a.1).flatten=(List.map (enc g t) a.1).flatten;induction a.1 with
  | nil=>rfl
  | cons x l ih=>rw [List.map_cons,List.flatten_cons,List.map_append,uq hw (t:=t) x h,ih]
def W3:TV G->Option (TV G)
 | .raw v=>(match v with | .bx=>some (.oY []) | v=>some (.raw v.wk))
 | .arr n t a=>if t.wk then some (.arr n t a) else none
 | .agg l=>some (.agg (l.map CO))
 | .bk l=>none
 | .fS t o=>some (.bg t (o.getD []))
 | v=>some v
theorem Ru {g:Ge G} (hw:g.Wk) {ln:Nat->Nat} {v w:TV G} (h:W3 v=some w):w.av g ln=(v.av g ln).wk:=by
 cases v with
 | raw a=>
  unfold W3 at h;dsimp only at h;split at h
  ·injection h with h;subst h;rfl
  ·injection h with h;subst h;rfl
 | arr n t a=>
  unfold W3 at h;dsimp only at h;split at h
  case isFalse=>cases h
  rename_i hc;injection h with h;subst h
  show AV.agg _=AV.agg (List.map AV.Fz (List.map (enc g t) a.1).flatten);have:=uq hw (t:= .arr n t) a hc;exact congrArg AV.agg this.symm
 | agg l=>injection h with h;subst h;show AV.agg _=AV.agg _;rw [th]
 | bk l=>cases h
 | fS t o=>injection h with h;subst h;cases o<;>rfl
 | dB t o=>injection h with h;subst h;cases o<;>rfl
 | sa i lo len=>injection h with h;subst h;show (if len=0 then AV.ro [] else .arr i 1 0 lo 1 len)=AV.wk (if len=0 then AV.ro [] else .arr i 1 0 lo 1 len);split<;>rfl
 | _=>injection h with h;subst h;rfl
def Tz (g:Ge G):TO G->Option (TO G)
 | .box l=>some (.box (l.map CO))
 | .bg fl t l=>if t.wk then some (.bg fl t l) else none
 | .cN fl sz es=>some (.cN fl sz (es.map (List.map CO)))
 | .mix fl t l es=>if t.wk then (match nV g t (es.map (List.map CO)) with | some m=>some (.bg fl t (l++m)) | none=>none) else none
 | .arr n t a=>if t.wk then some (.arr n t a) else none
 | .dead=>some .dead
 | _=>none
theorem Rv {g:Ge G} (hg:g.Ok) (hw:g.Wk) {ln:Nat->Nat} {F:List (T×C3)} {o o':TO G} (h:Tz g o=some o'):o'.av g ln F=(o.av g ln F).wk/\o'.len=o.len:=by
 cases o with
 | box l=>
  injection h with h;subst h
  refine ⟨?_,rfl⟩;show Obj.live _ _ [_]=Obj.live _ _ [_];rw [th,List.length_map]
 | bg fl t l=>
  unfold Tz at h;dsimp only at h;split at h
  case isFalse=>cases h
  rename_i hc;injection h with h;subst h
  refine ⟨?_,rfl⟩;show Obj.live _ _ _=Obj.live _ _ _;rw [List.map_map];congr 1;exact (List.map_congr_left fun x _=>uq hw x hc).symm
 | cN fl sz es=>
  injection h with h;subst h
  refine ⟨?_,by simp [TO.len]⟩;show Obj.live _ _ _=Obj.live _ _ _;rw [bl,bl,List.map_map,List.map_map];congr 1;exact List.map_congr_left fun x _=>th x
 | mix fl t l es=>
  unfold Tz at h;dsimp only at h;split at h
  case isFalse=>cases h
  rename_i hc;split at h
  case h_2=>cases h
  rename_i m hm;injection h with h;subst h
  obtain ⟨h1,h2⟩:=gY hg ln hm;refine ⟨?_,by simp [TO.len] at h2 ⊢;omega⟩;show Obj.live _ _ _=Obj.live _ _ _;rw [List.map_append,List.map_append,List.map_map];congr 1;congr 1
  ·exact (List.map_congr_left fun x _=>uq hw x hc).symm
  ·rw [<-h1,bl,bl,List.map_map,List.map_map];exact List.map_congr_left fun x _=>th x
 | arr n t a=>
  unfold Tz at h;dsimp only at h;split at h
  case isFalse=>cases h
  rename_i hc;injection h with h;subst h
  refine ⟨?_,rfl⟩;show Obj.live _ _ [_]=Obj.live _ _ [_];have:=uq hw (t:= .arr n t) a hc;congr 2;exact this.symm
 | dead=>injection h with h;subst h;exact ⟨rfl,rfl⟩
 | _=>cases h
def FU (g:Ge G) (s:DS G) (id:Nat):Option (DS G):=match s.H[id]? with
 | some o=>(match Tz g o with | some o'=>some (s.hN id o') | none=>none)
 | none=>none
def Qs:TV G->Bool
 | .sa ..=>true
 | _=>false
theorem EJ {g:Ge G} {ln:Nat->Nat} {v:TV G} (h:Qs v=true):∀ id e o l,v.av g ln≠ .own id e o l:=by
 intro id e o l hv
 cases v with
 | sa i lo len=>simp only [TV.av] at hv;split at hv<;>cases hv
 | _=>cases h
def Qt (g:Ge G) (s:DS G) (v:TV G):Option (DS G):=match v with
 | .own id=>FU g s id
 | .po id _=>FU g s id
 | .pe id _ _=>FU g s id
 | .pa id _ _ _=>FU g s id
 | v=>if (qU v||Qs v)&&uo v then some s else none
def Mf (g:Ge G):List Nat->DS G->Option (DS G)
 | [],s=>some s
 | t::ts,s=>(match W3 (s.get t) with
  | some w=>(match Qt g s (s.get t) with
   | some s1=>Mf g ts (s1.put t w)
   | none=>none)
  | none=>none)
theorem tw {g:Ge G} (hg:g.Ok) (hw:g.Wk) {s s':DS G} {id:Nat} (h:FU g s id=some s'):(match (s.Hv g)[id]? with | some o=>(s.Hv g).set id o.wk | none=>s.Hv g)=s'.Hv g/\s'.ln=s.ln/\s'.tm g=s.tm g/\s'.FR g=s.FR g:=by
 unfold FU at h;split at h
 case h_2=>cases h
 rename_i o ho;split at h
 case h_2=>cases h
 rename_i o' ho';injection h with h;subst h
 obtain ⟨k1,k2⟩:=Rv (g:=g) (ln:=s.ln) (F:=s.FR g) hg hw ho';obtain ⟨e1,e2,e3,e4⟩:=eU (g:=g) (o':=o') ho k2;refine ⟨?_,e1,e2,e3⟩;rw [bp ho,e4,k1]
theorem MU {g:Ge G} (hg:g.Ok) (hw:g.Wk) {s s':DS G} {v:TV G} (h:Qt g s v=some s'):Lo (s.Hv g) (v.av g s.ln)=s'.Hv g/\s'.ln=s.ln/\s'.tm g=s.tm g/\s'.FR g=s.FR g:=by
 have other:∀ {v:TV G},(∀ id e o l,v.av g s.ln≠ .own id e o l)->(∀ id e i o,v.av g s.ln≠ .ax id e i o)->Lo (s.Hv g) (v.av g s.ln)=s.Hv g:=by
  intro v h1 h2;unfold Lo;split
  ·rename_i e;exact (h2 _ _ _ _ e).elim
  ·rename_i e;exact (h1 _ _ _ _ e).elim
  ·rfl
 unfold Qt at h;split at h
 ·exact tw hg hw h
 ·exact tw hg hw h
 ·exact tw hg hw h
 ·exact tw hg hw h
 ·split at h
  case isFalse=>cases h
  rename_i hn;rw [Bool.and_eq_true] at hn;injection h with h;subst h
  refine ⟨other ?_ (nr hn.2),rfl,rfl,rfl⟩;rcases (Bool.or_eq_true _ _).mp hn.1 with hn | hn
  ·exact kF hn
  ·exact EJ hn
theorem EK {g:Ge G} (hg:g.Ok) (hw:g.Wk):∀ {ts:List Nat} {s s':DS G},Mf g ts s=some s'->tS ts (s.st g)=s'.st g/\s'.FR g=s.FR g
 | [],s,s',h=>by injection h with h;subst h;exact ⟨rfl,rfl⟩
 | t::ts,s,s',h=>by
  rw [Mf] at h;split at h
  case h_2=>cases h
  rename_i w hw';split at h
  case h_2=>cases h
  rename_i s1 h1;obtain ⟨k1,k2,k3,k4⟩:=MU hg hw h1;obtain ⟨e1,e2⟩:=EK hg hw h;refine ⟨?_,by rw [e2,DS.qV,k4]⟩;rw [tS,<-e1];congr 1;show (⟨_,_⟩:ST)=⟨(s1.put t w).tm g,(s1.put t w).Hv g⟩;rw [DS.qW,DS.ur,k3,k2,<-k1,Ru hw hw',<-DS.gG];rfl
def DS.AA (s:DS G):List Nat->DS G
 | []=>s
 | d::ds=>DS.AA ⟨s.sz,CX s.sl d,s.H,s.fr⟩ ds
theorem EL {g:Ge G}:∀ {l:List Nat} {s:DS G},(s.AA l).st g=⟨T.fe l (s.tm g),s.Hv g⟩/\(s.AA l).FR g=s.FR g
 | [],s=>⟨rfl,rfl⟩
 | d::l,s=>by
  rw [DS.AA];obtain ⟨e1,e2⟩:=EL (g:=g) (l:=l) (s:=⟨s.sz,CX s.sl d,s.H,s.fr⟩);refine ⟨?_,e2⟩;rw [e1,T.fe];show (⟨T.fe l ⟨s.sz,dx g s.ln (CX s.sl d)⟩,_⟩:ST)=⟨T.fe l ⟨s.sz,T.lT (dx g s.ln s.sl) d⟩,_⟩;rw [EM];rfl
def DS.yP (s:DS G) (m:Nat):DS G:=⟨s.sz,s.sl,s.H.take m,s.fr⟩
def Qu (s:DS G) (t:Nat):Option (DS G):=match s.get t with
 | .own id=>(match s.H[id]? with
  | some (.bg fl u l)=>if fl.free then some ((s.dy id .dead).put t (.bg u l)) else some s
  | some (.cN fl sz es)=>if fl.free then (if jb es&&iB es then some ((s.dy id .dead).put t (.oY es)) else (match oz 0 es with | some false=>some s | _=>none)) else some s
  | _=>none)
 | v=>if qU v||Qs v then some s else none
def HP (s:DS G) (t:Nat):Option (DS G):=match s.get t with
 | .po id o=>if Nat.beq o 0 then (match s.H[id]? with
  | some (.box cs)=>if TV.lD cs&&gF cs then some ((s.hN id .dead).put t (.bV cs)) else (match mj 0 cs with | some false=>some s | _=>none)
  | _=>none) else some s
 | v=>if uo v then some s else none
def Ei (s:DS G) (id j o n:Nat) (v:TV G):Option (DS G):=match (s.dy j .dead).H[id]? with
 | some (.box cs')=>if Nat.beq cs'.length n then some ((s.dy j .dead).hN id (.box (cs'.set o v))) else none
 | _=>none
def HQ (s:DS G) (t off:Nat):Option (DS G):=match s.get t with
 | .po id o=>(match s.H[id]? with
  | some (.box cs)=>(match cs[o+off]? with
   | some (.own j)=>if Nat.beq j id then none else (match s.H[j]? with
    | some (.bg fl u l)=>if fl.free then Ei s id j (o+off) cs.length (.bg u l) else some s
    | some (.cN fl sz es)=>if fl.free&&(jb es&&iB es) then Ei s id j (o+off) cs.length (.oY es) else none
    | _=>none)
   | some v=>if qU v then some s else none
   | none=>none)
  | _=>none)
 | v=>if uo v then some s else none
def HS (s:DS G) (t sz:Nat):Option (DS G):=match s.get t with
 | .raw v=>(match v with
  | .bx=>if s.fits s.H.length (.cN .nil sz []) then some ((s.dY s.H.length (.cN .nil sz [])).put t (.own s.H.length)) else none
  | _=>some s)
 | v=>if notNil v then some s else none
def Db (s:DS G) (t off sz:Nat):Option (DS G):=match s.get t with
 | .po id o=>(match s.H[id]? with
  | some (.box cs)=>(match cs[o+off]? with
   | some (.raw v)=>(match v with
    | .bx=>if s.fits s.H.length (.cN .nil sz []) then some ((s.dY s.H.length (.cN .nil sz [])).hN id (.box (cs.set (o+off) (.own s.H.length)))) else none
    | _=>some s)
   | some v=>if notNil v then some s else none
   | none=>none)
  | _=>none)
 | v=>if uo v then some s else none
def Dc (s:DS G) (m:Nat):Option (DS G):=
 if Nat.blt m s.H.length then
  (match nX m s.sl with
   | some true=>(match gE m (Al m s.fr) (s.H.take m) with
    | some true=>if Al m s.fr then some (s.yP m) else none
    | some false=>some s
    | none=>none)
   | some false=>some s
   | none=>none)
 else some s
def Hi (g:Ge G) (b:Nat) (s:DS G):GA->Option (DS G)
 | .kill l=>some (s.AA l)
 | .wk l=>Mf g l s
 | .aj n=>Dc s (b+n)
 | .jx t=>Qu s t
 | .aB t=>HP s t
 | .iQ t off=>HQ s t off
 | .prom t sz=>HS s t sz
 | .fK t off sz=>Db s t off sz
 | .sh t=>if qU (s.get t) then some s else none
 | .res t=>if qU (s.get t) then some s else none
 | .cut _=>none
def Cu (g:Ge G) (b:Nat):List GA->DS G->Option (DS G)
 | [],s=>some s
 | a::r,s=>(match Hi g b s a with | some s'=>Cu g b r s' | none=>none)
theorem zu {g:Ge G} {s:DS G} {id:Nat} {o o':TO G} (hid:s.H[id]?=some o) (t:Nat) (v:TV G):((s.dy id o').put t v).st g=⟨(s.tm g).put t (v.av g (s.dy id o').ln),(s.Hv g).set id (o'.av g (s.dy id o').ln (s.FR g))⟩/\((s.dy id o').put t v).FR g=s.FR g:=by
 obtain ⟨e1,e2,e3,e4⟩:=pR (g:=g) (o':=o') hid;refine ⟨?_,by rw [DS.qV,e3]⟩;show (⟨DS.tm g _,DS.Hv g _⟩:ST)=_;rw [DS.qW,DS.ur,e2,e4]
theorem MV {g:Ge G} (hg:g.Ok) {s s':DS G} {t:Nat} (h:Qu s t=some s'):aG 0 (s.st g) (.jx t)=some (s'.st g)/\s'.FR g=s.FR g:=by
 have aN:(s.st g).tmps.get t=(s.get t).av g s.ln:=DS.gG g s t;have other:∀ {v:TV G},(s.get t)=v->(∀ id e o l,v.av g s.ln≠ .own id e o l)->aG 0 (s.st g) (.jx t)=some (s.st g):=by
  intro v hv hn;have:om t (s.st g)=some (s.st g):=by
   unfold om;rw [aN,hv];split
   ·rename_i e;exact (hn _ _ _ _ e).elim
   ·rfl
  simp only [aG,this]
 unfold Qu at h;split at h
 ·rename_i id hv;rw [hv] at aN;split at h
  ·rename_i fl u l hid;have hH:=bp (g:=g) hid;have hn:cw (s.Hv g) id=fl:=by unfold cw;rw [hH];rfl
   have hfz:om t (s.st g)=if fl.free=true then some ⟨(s.tm g).put t (.ro (l.map (enc g u))),(s.Hv g).set id .dead⟩ else none:=by
    unfold om;rw [aN];show (match aH (s.Hv g) id with | some (_,es)=>_ | none=>none)=_;simp only [aH,hH,TO.av,kn hid,List.length_map,List.drop_zero];rw [List.take_of_length_le (by simp),show cw (s.st g).H id=fl from hn];by_cases hf:fl.free=true
    ·rw [if_pos ⟨trivial,fM (cR hg u).bA l,hf⟩,if_pos hf];rfl
    ·rw [if_neg (fun h=>hf h.2.2),if_neg hf]
   split at h
   ·rename_i hf;injection h with h;subst h
    obtain ⟨e1,e2⟩:=zu (g:=g) (o':= .dead) hid t (.bg u l);refine ⟨?_,e2⟩;rw [aG,hfz,if_pos hf,e1];rfl
   ·rename_i hf;injection h with h;subst h
    refine ⟨?_,rfl⟩;rw [aG,hfz,if_neg hf]
  ·rename_i fl sz es hid;have hH:=bp (g:=g) hid;have hn:cw (s.Hv g) id=fl:=by unfold cw;rw [hH];rfl
   have hl:s.ln id=es.length:=by unfold DS.ln jD;rw [hid];rfl
   have hfz:jb es=true\/fl.free=false->om t (s.st g)=if fl.free=true then some ⟨(s.tm g).put t (.ro (TV.cU g s.ln es)),(s.Hv g).set id .dead⟩ else none:=by
    intro hfr;unfold om;rw [aN];show (match aH (s.Hv g) id with | some (_,es)=>_ | none=>none)=_;have hle:(TV.cU g s.ln es).length=es.length:=by rw [bl,List.length_map]
    simp only [aH,hH,TO.av,hl,hle,List.drop_zero];rw [List.take_of_length_le (by rw [hle];exact Nat.le_refl _),show cw (s.st g).H id=fl from hn];by_cases hf:fl.free=true
    ·rw [if_pos ⟨trivial,fy hg s.ln es (by rcases hfr with h | h;exact h;rw [hf] at h;cases h),hf⟩,if_pos hf];rfl
    ·rw [if_neg (fun h=>hf h.2.2),if_neg hf]
   split at h
   ·rename_i hf;split at h
    ·rename_i hc;rw [Bool.and_eq_true] at hc;injection h with h;subst h
     obtain ⟨e1,e2⟩:=zu (g:=g) (o':= .dead) hid t (.oY es);refine ⟨?_,e2⟩;rw [aG,hfz (.inl hc.1),if_pos hf,e1];show some (⟨_,_⟩:ST)=some ⟨(s.tm g).put t (.ro _),_⟩;rw [fD es hc.2];rfl
    ·split at h
     case h_2=>cases h
     rename_i hb;injection h with h;subst h
     refine ⟨?_,rfl⟩;have hle:(TV.cU g s.ln es).length=es.length:=by rw [bl,List.length_map]
     have:om t (s.st g)=none:=by
      unfold om;rw [aN];show (match aH (s.Hv g) id with | some (_,es)=>_ | none=>none)=_;simp only [aH,hH,TO.av,hl,hle,List.drop_zero];rw [List.take_of_length_le (by rw [hle];exact Nat.le_refl _),if_neg];intro hc;rw [rH hg hb] at hc
      cases hc.2.1
     rw [aG,this]
   ·rename_i hf;injection h with h;subst h
    refine ⟨?_,rfl⟩;rw [aG,hfz (.inr (by simpa using hf)),if_neg hf]
  ·cases h
 ·rename_i v hv;split at h
  case isFalse=>cases h
  rename_i hc;injection h with h;subst h
  refine ⟨other rfl ?_,rfl⟩;rcases (Bool.or_eq_true _ _).mp hc with hc | hc
  ·exact kF hc
  ·exact EJ hc
theorem F3 (b:Nat) (s:ST) (t:Nat):aG b s (.jx t)=aG 0 s (.jx t):=rfl
theorem Kb {g:Ge G} (hg:g.Ok) {s s':DS G} {b t:Nat} (h:HP s t=some s'):aG b (s.st g) (.aB t)=some (s'.st g)/\s'.FR g=s.FR g:=by
 have aN:(s.st g).tmps.get t=(s.get t).av g s.ln:=DS.gG g s t;have other:(∀ id,(s.get t).av g s.ln≠ .ax id 1 0 0)->aG b (s.st g) (.aB t)=some (s.st g):=by
  intro hn;have:kg t (s.st g)=none:=by
   unfold kg;rw [aN];split
   ·rename_i e;exact (hn _ e).elim
   ·rfl
  simp only [aG,this]
 unfold HP at h;split at h
 ·rename_i id o hv;split at h
  ·rename_i ho;have ho:=Nat.eq_of_beq_eq_true ho;subst ho;split at h
   case h_2=>cases h
   rename_i cs hid;have hH:=bp (g:=g) hid;split at h
   case isFalse=>
    split at h
    case h_2=>cases h
    rename_i hb;injection h with h;subst h
    have:kg t (s.st g)=none:=by
     unfold kg;rw [aN,hv];show (match (s.Hv g)[id]? with | some (.live .norm _ [cs])=>_ | _=>none)=_;rw [hH];show (if AV.aS 0 (TV.aR g s.ln cs)=true then _ else none)=_;rw [if_neg (by rw [ji hg cs false hb];exact fun e=>(nomatch e))]
    exact ⟨by simp only [aG,this],rfl⟩
   rename_i hc;rw [Bool.and_eq_true] at hc;injection h with h;subst h
   obtain ⟨k1,k2,k3,k4⟩:=eU (g:=g) (o':= .dead) hid rfl;have:kg t (s.st g)=some ⟨(s.tm g).put t (.bV (TV.aR g s.ln cs)),(s.Hv g).set id .dead⟩:=by
    unfold kg;rw [aN,hv];show (match (s.Hv g)[id]? with | some (.live .norm _ [cs])=>_ | _=>none)=_;rw [hH];show (if AV.aS 0 (TV.aR g s.ln cs)=true then _ else none)=_;rw [if_pos (er hg s.ln cs hc.1)];rfl
   refine ⟨?_,by rw [DS.qV,k3]⟩;rw [aG,this];show some (⟨_,_⟩:ST)=some ⟨DS.tm g _,DS.Hv g _⟩;rw [DS.qW,DS.ur,k2,k4,k1];rfl
  ·rename_i ho;injection h with h;subst h
   refine ⟨other ?_,rfl⟩;intro id' e;rw [hv] at e;injection e with _ _ _ e;subst e
   exact ho rfl
 ·split at h
  case isFalse=>cases h
  rename_i hn;injection h with h;subst h
  exact ⟨other (fun id=>nr hn id 1 0 0),rfl⟩
theorem Kc {g:Ge G} (hg:g.Ok) {s s':DS G} {b t sz:Nat} (h:HS s t sz=some s'):aG b (s.st g) (.prom t sz)=some (s'.st g)/\s'.FR g=s.FR g:=by
 have aN:(s.st g).tmps.get t=(s.get t).av g s.ln:=DS.gG g s t;have other:(s.get t).av g s.ln≠ .bx->aG b (s.st g) (.prom t sz)=some (s.st g):=by
  intro hn;rw [aG,aN];split
  ·rename_i e;exact (hn e).elim
  ·rfl
 unfold HS at h;split at h
 ·rename_i v hv;split at h
  ·split at h
   case isFalse=>cases h
   rename_i hf;injection h with h;subst h
   obtain ⟨k1,k2,k3⟩:=fq (g:=g) hf;have yD:=iK (jO hf) (TO.cN .nil sz ([]:List (List (TV G))));refine ⟨?_,by rw [DS.qV,k2]⟩;rw [aG,aN,hv];show some (⟨(s.tm g).put t (.own (s.Hv g).length 0 0 0),s.Hv g++[.live .nil sz []]⟩:ST)=some ⟨DS.tm g _,DS.Hv g _⟩;rw [DS.qW,DS.ur,k1,k3,fZ];show _=some (⟨(s.tm g).put t (.own s.H.length (DS.ln _ s.H.length) 0 (DS.ln _ s.H.length)),_⟩:ST);rw [yD];unfold putObj;rw [fZ,if_neg (Nat.lt_irrefl _)];rfl
  ·rename_i hne;injection h with h;subst h
   refine ⟨other ?_,rfl⟩;rw [hv];exact hne
 ·split at h
  case isFalse=>cases h
  rename_i hn;injection h with h;subst h
  exact ⟨other (xO hn),rfl⟩
theorem B9 {g:Ge G} {s:DS G} {id:Nat} {cs:List (TV G)} (hid:s.H[id]?=some (.box cs)):aH (s.Hv g) id=some (cs.length,[TV.aR g s.ln cs]):=by
 unfold aH;rw [bp hid];rfl
theorem qh {g:Ge G} {s:DS G} {id o:Nat} {cs:List (TV G)} (hid:s.H[id]?=some (.box cs)) {v:TV G} (hv:cs[o]?=some v):loadAt (s.Hv g) 1 false (.ax id 1 0 o)=some (v.av g s.ln):=by
 simp only [loadAt,B9 hid,List.length_singleton,if_true,List.getElem?_cons_zero];exact fh (n:=1) (ag:=false) (cs:=cs) (o:=o) hv
theorem F4 {g:Ge G} (hg:g.Ok) {s s':DS G} {b t off sz:Nat} (h:Db s t off sz=some s'):aG b (s.st g) (.fK t off sz)=some (s'.st g)/\s'.FR g=s.FR g:=by
 have aN:(s.st g).tmps.get t=(s.get t).av g s.ln:=DS.gG g s t;unfold Db at h;split at h
 ·rename_i id o hv;have aN:(s.st g).tmps.get t= .ax id 1 0 o:=by rw [aN,hv];rfl
  split at h
  case h_2=>cases h
  rename_i cs hid;have rest:∀ {v:TV G},cs[o+off]?=some v->v.av g s.ln≠ .bx->aG b (s.st g) (.fK t off sz)=some (s.st g):=by
   intro v h1 h2;have hl:loadAt (s.st g).H 1 false (.ax id 1 0 (o+off))=some (v.av g s.ln):=qh hid h1;rw [aG,aN];dsimp only;rw [hl];split
   ·rename_i e;injection e with e;exact (h2 e).elim
   ·rfl
  split at h
  ·rename_i v hcs;split at h
   ·split at h
    case isFalse=>cases h
    rename_i hf;injection h with h;subst h
    obtain ⟨k1,k2,k3⟩:=fq (g:=g) hf;have hle:=jO hf;have yD:=iK hle (TO.cN .nil sz ([]:List (List (TV G))));have Qv:id < s.H.length:=(List.getElem?_eq_some_iff.1 hid).1;have c8:(s.dY s.H.length (.cN .nil sz [])).H[id]?=some (.box cs):=by
     unfold DS.dY;dsimp only;rw [if_neg (Nat.lt_irrefl _),List.getElem?_append_left Qv,hid]
    have hH':(s.dY s.H.length (.cN .nil sz [])).Hv g=s.Hv g++[.live .nil sz []]:=by
     rw [k3];unfold putObj;rw [fZ,if_neg (Nat.lt_irrefl _)];rfl
    obtain ⟨e1,e2,e3,e4⟩:=eU (g:=g) (o':= .box (cs.set (o+off) (.own s.H.length))) c8 rfl;refine ⟨?_,by rw [e3,k2]⟩;have hl:loadAt (s.st g).H 1 false (.ax id 1 0 (o+off))=some .bx:=qh hid hcs;have ho:o+off < cs.length:=(List.getElem?_eq_some_iff.1 hcs).1;have hst:storeAt ((s.st g).H++[.live .nil sz []]) 1 (.ax id 1 0 (o+off)) (.own (s.st g).H.length 0 0 0)=some (((s.dY s.H.length (.cN .nil sz [])).hN id (.box (cs.set (o+off) (.own s.H.length)))).Hv g):=by
     show storeAt (s.Hv g++[.live .nil sz []]) 1 _ (.own (s.Hv g).length 0 0 0)=_;rw [<-hH',e4];have W4:=bp (g:=g) c8;simp only [storeAt,aH,W4,TO.av,List.length_singleton,cw,AV.cells];rw [if_pos ⟨trivial,trivial,by omega,rfl,rfl⟩];simp only [List.getElem?_cons_zero,List.set_cons_zero,putAt,List.length_set];have:TV.aR g (s.dY s.H.length (.cN .nil sz [])).ln (cs.set (o+off) (.own s.H.length))=(TV.aR g (s.dY s.H.length (.cN .nil sz [])).ln cs).set (o+off) (.own (s.Hv g).length 0 0 0):=by
      rw [bX,bX,List.map_set,fZ];show _=List.set _ _ _;congr 1;show AV.own s.H.length (DS.ln _ s.H.length) 0 (DS.ln _ s.H.length)=_;rw [yD];rfl
     rw [this]
    rw [aG,aN];dsimp only;rw [hl];dsimp only;rw [hst];show some (⟨s.tm g,_⟩:ST)=some ⟨DS.tm g _,DS.Hv g _⟩;rw [e2,k1]
   ·rename_i hne;injection h with h;subst h
    exact ⟨rest hcs hne,rfl⟩
  ·rename_i v hne hcs;split at h
   case isFalse=>cases h
   rename_i hn;injection h with h;subst h
   exact ⟨rest hcs (xO hn),rfl⟩
  ·cases h
 ·split at h
  case isFalse=>cases h
  rename_i hn;injection h with h;subst h
  refine ⟨?_,rfl⟩;rw [aG,aN];split
  ·rename_i e;exact (nr hn _ _ _ _ e).elim
  ·rfl
theorem F5 {H:List Obj} {id n o:Nat} {cs:List AV} {v:AV} (hH:H[id]?=some (.live .norm n [cs])) (ho:o+1<=n) (hv:v.cells=[v]) (h1:v.one=true):storeAt H 1 (.ax id 1 0 o) v=some (H.set id (.live .norm n [cs.set o v])):=by
 have ha:aX [v]=true:=by simp [aX,h1]
 simp only [storeAt,aH,hH,cw,hv,List.length_singleton];rw [if_pos ⟨trivial,trivial,ho,ha,rfl⟩];simp [putAt]
theorem Ke {g:Ge G} (hg:g.Ok) {s s':DS G} {b t off:Nat} (h:HQ s t off=some s'):aG b (s.st g) (.iQ t off)=some (s'.st g)/\s'.FR g=s.FR g:=by
 have aN:(s.st g).tmps.get t=(s.get t).av g s.ln:=DS.gG g s t;unfold HQ at h;split at h
 ·rename_i id o hv;have aN:(s.st g).tmps.get t= .ax id 1 0 o:=by rw [aN,hv];rfl
  split at h
  case h_2=>cases h
  rename_i cs hid;split at h
  ·rename_i j hcs;split at h
   ·cases h
   rename_i hj;have hj:j≠id:=by rintro rfl;simp at hj
   have jx:∀ {ob:TO G} {fl:Fl} {sz:Nat} {es:List (List AV)},s.H[j]?=some ob->ob.av g s.ln (s.FR g)= .live fl sz es->ob.len=es.length->AV.bM 0 es=true->
    loadAt (s.st g).H 1 false (.ax id 1 0 (o+off))=some (.own j es.length 0 es.length)/\jB 0 ⟨[.own j es.length 0 es.length],(s.st g).H⟩=if fl.free=true then some ⟨[.ro es],(s.Hv g).set j .dead⟩ else none:=by
    intro ob fl sz es wL h1 h2 h3;have e:s.ln j=es.length:=by unfold DS.ln jD;rw [wL];exact h2
    have hH:(s.Hv g)[j]?=some (.live fl sz es):=by rw [bp wL,h1]
    have hn:cw (s.Hv g) j=fl:=by unfold cw;rw [hH]
    refine ⟨?_,?_⟩
    ·have:=qh (g:=g) hid hcs;rw [show (TV.own j:TV G).av g s.ln= .own j (s.ln j) 0 (s.ln j) from rfl,e] at this;exact this
    ·unfold jB;show (match aH (s.Hv g) j with | some (_,es)=>_ | none=>none)=_;simp only [aH,hH,List.drop_zero];rw [List.take_of_length_le (Nat.le_refl _),show cw (s.st g).H j=fl from hn];by_cases hf:fl.free=true
     ·rw [if_pos ⟨trivial,h3,hf⟩,if_pos hf];rfl
     ·rw [if_neg (fun h=>hf h.2.2),if_neg hf]
   have go:∀ {ob:TO G} {fl:Fl} {sz:Nat} {es:List (List AV)} {v:TV G},s.H[j]?=some ob->ob.av g s.ln (s.FR g)= .live fl sz es->ob.len=es.length->AV.bM 0 es=true->fl.free=true->v.av g (s.dy j .dead).ln= .ro es->
    Ei s id j (o+off) cs.length v=some s'->aG b (s.st g) (.iQ t off)=some (s'.st g)/\s'.FR g=s.FR g:=by
    intro ob fl sz es v wL h1 h2 h3 hf hv h;obtain ⟨hl,hfz⟩:=jx wL h1 h2 h3;unfold Ei at h;split at h
    case h_2=>cases h
    rename_i cs' c8;split at h
    case isFalse=>cases h
    rename_i hlen;have hlen:=Nat.eq_of_beq_eq_true hlen;injection h with h;subst h
    obtain ⟨k1,k2,k3,k4⟩:=pR (g:=g) (o':= .dead) wL;obtain ⟨e1,e2,e3,e4⟩:=eU (g:=g) (o':= .box (cs'.set (o+off) v)) c8 rfl;refine ⟨?_,by rw [e3,k3]⟩;have W4:=bp (g:=g) c8;rw [k4] at W4;have ho:o+off < cs.length:=(List.getElem?_eq_some_iff.1 hcs).1;have hst:storeAt ((s.Hv g).set j .dead) 1 (.ax id 1 0 (o+off)) (.ro es)=some (((s.dy j .dead).hN id (.box (cs'.set (o+off) v))).Hv g):=by
     rw [e4,k4];rw [F5 (show ((s.Hv g).set j .dead)[id]?=some (.live .norm cs'.length [TV.aR g (s.dy j .dead).ln cs']) from W4) (by omega) rfl rfl];simp only [TO.av,List.length_set];have:TV.aR g (s.dy j .dead).ln (cs'.set (o+off) v)=(TV.aR g (s.dy j .dead).ln cs').set (o+off) (.ro es):=by
      rw [bX,bX,List.map_set,hv]
     rw [this]
    rw [aG,aN];dsimp only;rw [hl];dsimp only;rw [if_neg hj,hfz,if_pos hf];dsimp only;rw [hst];show some (⟨s.tm g,_⟩:ST)=some ⟨DS.tm g _,DS.Hv g _⟩;rw [e2,k2]
   split at h
   ·rename_i fl u l wL;split at h
    ·rename_i hf;exact go wL rfl (by simp [TO.len]) (fM (cR hg u).bA l) hf rfl h
    ·rename_i hf;injection h with h;subst h
     obtain ⟨hl,hfz⟩:=jx wL rfl (by simp [TO.len]) (fM (cR hg u).bA l);refine ⟨?_,rfl⟩;rw [aG,aN];dsimp only;rw [hl];dsimp only;rw [if_neg hj,hfz,if_neg hf]
   ·rename_i fl sz es wL;split at h
    case isFalse=>cases h
    rename_i hf;simp only [Bool.and_eq_true] at hf;refine go wL rfl (by simp [TO.len,bl]) (fy hg s.ln es hf.2.1) hf.1 ?_ h;show AV.ro _=AV.ro _;rw [fD es hf.2.2]
   ·cases h
  ·rename_i v hne hcs;split at h
   case isFalse=>cases h
   rename_i hn;injection h with h;subst h
   refine ⟨?_,rfl⟩;have hl:loadAt (s.st g).H 1 false (.ax id 1 0 (o+off))=some (v.av g s.ln):=qh hid hcs;rw [aG,aN];dsimp only;rw [hl];split
   ·rename_i e;injection e with e;exact (kF hn _ _ _ _ e).elim
   ·rfl
  ·cases h
 ·split at h
  case isFalse=>cases h
  rename_i hn;injection h with h;subst h
  refine ⟨?_,rfl⟩;rw [aG,aN];split
  ·rename_i e;exact (nr hn _ _ _ _ e).elim
  ·rfl
theorem F6 {g:Ge G} (hg:g.Ok) {s s':DS G} {b n:Nat} (h:Dc s (b+n)=some s'):aG b (s.st g) (.aj n)=some (s'.st g)/\s'.FR g=s.FR g:=by
 have hlen:(s.st g).H.length=s.H.length:=fZ g s;unfold Dc at h;split at h
 ·rename_i hb;have keep:(T.aS (b+n) (s.st g).tmps&&bZ (b+n) ((s.st g).H.take (b+n)))=false->aG b (s.st g) (.aj n)=some (s.st g):=by
   intro hx;rw [aG,hx,Bool.and_false];rfl
  split at h
  ·rename_i yA;have h1:T.aS (b+n) (s.st g).tmps=true:=mM hg yA;split at h
   ·rename_i hO;have h2:bZ (b+n) ((s.st g).H.take (b+n))=true:=by
     show bZ (b+n) ((s.H.map _).take (b+n))=true;rw [<-List.map_take];exact eT hg (tu hg) hO
    split at h
    case isFalse=>cases h
    rename_i hF;injection h with h;subst h
    have hl:∀ j,j < b+n->(s.yP (b+n)).ln j=s.ln j:=by
     intro j hj;unfold DS.ln jD DS.yP;dsimp only;rw [List.getElem?_take,if_pos hj]
    have wB:(s.yP (b+n)).FR g=s.FR g:=xN hl hF;refine ⟨?_,wB⟩;rw [aG,hlen,hb,h1,h2];show some (⟨s.tm g,(s.Hv g).take (b+n)⟩:ST)=some ⟨(s.yP (b+n)).tm g,(s.yP (b+n)).Hv g⟩;have e1:(s.yP (b+n)).tm g=s.tm g:=by
     show (⟨s.sz,_⟩:T)=⟨s.sz,_⟩;rw [show (s.yP (b+n)).sl=s.sl from rfl,oP hl yA]
    have e2:(s.yP (b+n)).Hv g=(s.Hv g).take (b+n):=by
     unfold DS.Hv;rw [wB];show (s.H.take (b+n)).map _=_;rw [dM hl hO,List.map_take]
    rw [e1,e2]
   ·rename_i hO;injection h with h;subst h
    refine ⟨?_,rfl⟩;have h2:bZ (b+n) ((s.st g).H.take (b+n))=false:=by
     show bZ (b+n) ((s.H.map _).take (b+n))=false;rw [<-List.map_take];exact eT hg (tu hg) hO
    exact keep (by rw [h2,Bool.and_false])
   ·cases h
  ·rename_i yA;injection h with h;subst h
   have h1:T.aS (b+n) (s.st g).tmps=false:=mM hg yA;exact ⟨keep (by rw [h1,Bool.false_and]),rfl⟩
  ·cases h
 ·rename_i hb;injection h with h;subst h
  refine ⟨?_,rfl⟩;have hb':Nat.blt (b+n) s.H.length=false:=Bool.eq_false_iff.2 hb;rw [aG,hlen,hb',Bool.false_and];rfl
theorem EN {g:Ge G} (hg:g.Ok) (hw:g.Wk) {s s':DS G} {b:Nat} {a:GA} (h:Hi g b s a=some s'):aG b (s.st g) a=some (s'.st g)/\s'.FR g=s.FR g:=by
 have aN:∀ t,(s.st g).tmps.get t=(s.get t).av g s.ln:=fun t=>DS.gG g s t
 cases a with
 | kill l=>
  injection h with h;subst h
  obtain ⟨e1,e2⟩:=EL (g:=g) (l:=l) (s:=s);exact ⟨by rw [aG,e1];rfl,e2⟩
 | wk l=>
  obtain ⟨e1,e2⟩:=EK hg hw h;exact ⟨by rw [aG,e1],e2⟩
 | aj n=>exact F6 hg h
 | jx t=>rw [F3];exact MV hg h
 | aB t=>exact Kb hg h
 | iQ t off=>exact Ke hg h
 | prom t sz=>exact Kc hg h
 | fK t off sz=>exact F4 hg h
 | sh t=>
  unfold Hi at h;dsimp only at h;split at h
  case isFalse=>cases h
  rename_i hn;injection h with h;subst h
  refine ⟨?_,rfl⟩;rw [aG,aN];split
  ·rename_i e;exact (kF hn _ _ _ _ e).elim
  ·rfl
 | res t=>
  unfold Hi at h;dsimp only at h;split at h
  case isFalse=>cases h
  rename_i hn;injection h with h;subst h
  refine ⟨?_,rfl⟩;rw [aG,aN];split
  ·rename_i e;exact (kF hn _ _ _ _ e).elim
  ·rfl
 | cut t=>cases h
theorem y6 {g:Ge G} (hg:g.Ok) (hw:g.Wk) {b:Nat}:∀ {l:List GA} {s s':DS G},Cu g b l s=some s'->cD b l (s.st g)=some (s'.st g)/\s'.FR g=s.FR g
 | [],s,s',h=>by injection h with h;subst h;exact ⟨rfl,rfl⟩
 | a::r,s,s',h=>by
  rw [Cu] at h;split at h
  case h_2=>cases h
  rename_i s1 h1;obtain ⟨e1,e2⟩:=EN hg hw h1;obtain ⟨e3,e4⟩:=y6 hg hw h;exact ⟨by rw [cD,e1];exact e3,by rw [e4,e2]⟩
def Qw {R:Type} (b:Nat) (s:DS G) (t:Nat) (c:DS G->Option R):Option R:=match s.get t with
 | .raw v=>(match v with
  | .own id ext off len=>(match s.H[id]? with
   | some (.bg fl u l)=>if decide (fl= .norm)&&((Nat.beq off 0&&Nat.beq len 0)&&(Nat.ble b id&&Nat.beq (id+1) s.H.length)) then
    (match nX id (s.put t (.raw .any)).sl,gE id (Al id s.fr) (s.H.take id) with
     | some true,some true=>if ext=l.length then c ((s.dy id (.bg .norm u [])).put t (.own id)) else none
     | _,_=>none) else none
   | _=>none)
  | _=>none)
 | _=>none
theorem MW {R:Type} {g:Ge G} (hg:g.Ok) {b:Nat} {s:DS G} {t:Nat} {c:DS G->Option R} {r:R} (h:Qw b s t c=some r):
 ∃ s',aG b (s.st g) (.cut t)=some (s'.st g)/\s'.FR g=s.FR g/\c s'=some r:=by
 have aN:(s.st g).tmps.get t=(s.get t).av g s.ln:=DS.gG g s t;unfold Qw at h;split at h
 case h_2=>cases h
 rename_i v hv;split at h
 case h_2=>cases h
 rename_i id ext off len;split at h
 case h_2=>cases h
 rename_i fl u l hid;split at h
 case isFalse=>cases h
 rename_i hc;simp only [Bool.and_eq_true,decide_eq_true_eq] at hc;obtain ⟨h1,⟨h2,h3⟩,h4,h5⟩:=hc;subst h1;have h2:=Nat.eq_of_beq_eq_true h2;have h3:=Nat.eq_of_beq_eq_true h3;have h5':=Nat.eq_of_beq_eq_true h5;subst h2;subst h3;split at h
 case h_2=>cases h
 rename_i yA hO;split at h
 case isFalse=>cases h
 rename_i he;subst he;have yD:(s.dy id (.bg .norm u [])).ln id=0:=(pR (g:=g) (o':= .bg .norm u []) hid).1;obtain ⟨k1,k2⟩:=zu (g:=g) (o':= .bg .norm u []) hid t (.own id);refine ⟨_,?_,k2,h⟩;have hH:(s.st g).H[id]?=some (.live .norm (u.n g) (l.map (enc g u))):=bp (g:=g) hid;have b1:T.aS id ((s.st g).tmps.put t .any)=true:=by
  have:T.aS id ((s.put t (.raw .any)).tm g)=true:=mM hg yA
  rwa [DS.qW] at this
 have b2:bZ id ((s.st g).H.take id)=true:=by
  show bZ id ((s.H.map _).take id)=true;rw [<-List.map_take];exact eT hg (tu hg) hO
 have b3:AV.bM id (l.map (enc g u))=true:=oQ (cR hg u).bA id l;have b4:(s.st g).H.length=s.H.length:=fZ g s;rw [aG,aN,hv];show (match (s.st g).H[id]? with | some (.live .norm sz es)=>_ | _=>none)=_;rw [hH];dsimp only;rw [if_pos (by rw [b1,b2,b3,b4,h4,h5,List.length_map];simp [Nat.beq_eq,Nat.ble_eq])];rw [k1];simp only [TV.av,yD,List.take_zero,TO.av,List.map_nil];rfl
def OZ:GA->Option Nat
 | .cut t=>some t
 | _=>none
theorem Kf {a:GA} {t:Nat} (h:OZ a=some t):a= .cut t:=by
 cases a with
 | cut t'=>injection h with h;rw [h]
 | _=>cases h
def S4 {R:Type} (g:Ge G) (b:Nat):List GA->DS G->(DS G->Option R)->Option R
 | [],s,c=>c s
 | a::r,s,c=>(match OZ a with
  | some t=>Qw b s t fun s'=>S4 g b r s' c
  | none=>(match Hi g b s a with | some s'=>S4 g b r s' c | none=>none))
theorem Dd {R:Type} {g:Ge G} (hg:g.Ok) (hw:g.Wk) {b:Nat} {c:DS G->Option R} {r:R}:∀ {l:List GA} {s:DS G},S4 g b l s c=some r->
 ∃ s',cD b l (s.st g)=some (s'.st g)/\s'.FR g=s.FR g/\c s'=some r
 | [],s,h=>⟨s,rfl,rfl,h⟩
 | a::l,s,h=>by
  rw [S4] at h;split at h
  ·rename_i t ht;rw [Kf ht];obtain ⟨s1,e1,e2,h⟩:=MW hg h;obtain ⟨s2,e3,e4,h⟩:=Dd hg hw h;exact ⟨s2,by rw [cD,e1];exact e3,by rw [e4,e2],h⟩
  ·split at h
   case h_2=>cases h
   rename_i s1 h1;obtain ⟨e1,e2⟩:=EN hg hw h1;obtain ⟨s2,e3,e4,h⟩:=Dd hg hw h;exact ⟨s2,by rw [cD,e1];exact e3,by rw [e4,e2],h⟩
end
end nT
