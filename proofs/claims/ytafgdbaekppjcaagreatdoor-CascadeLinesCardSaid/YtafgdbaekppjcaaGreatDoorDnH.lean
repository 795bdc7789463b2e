/- Typed states: ghost steps. No condition. -/
import Derived.Test.YtafgdbaekppjcaaGreatDoorDnG
set_option linter.unusedSectionVars false
set_option linter.unusedVariables false
set_option linter.unusedSimpArgs false
namespace Dnm
open Go hiding Obj mark
open Go.Pl Go.Am Go.Am.As
set_option linter.unusedVariables false
section
variable {G:Nat→Type} {R:Type}
mutual
def belV (m:Nat):TV G→Option Bool
 | .own i=>some (Nat.blt i m)
 | .po i _=>some (Nat.blt i m)
 | .pe i _ _=>some (Nat.blt i m)
 | .pa i _ _ _=>some (Nat.blt i m)
 | .sa i _ _ _ _=>if Nat.blt i m then some true else none
 | .agg l=>belsV m l
 | .tup l=>belsV m l
 | .fn _ l=>belsV m l
 | .raw v=>some (v.bel m)
 | .pro l=>if indeps l then some true else none
 | .rol es=>if indepss es then some true else none
 | _=>some true
def belsV (m:Nat):List (TV G)→Option Bool
 | []=>some true
 | x::xs=>(match belV m x with
  | some a=>(match belsV m xs with | some b=>some (a&&b) | none=>none)
  | none=>none)
end
theorem bels_mono0 {n:Nat} {l:List AV} (h:AV.bels 0 l=true):AV.bels n l=true:=bels_mono (Nat.zero_le n) l h
theorem blt_lt (i m:Nat):Nat.blt i m=decide (i < m):=by
 cases h:Nat.blt i m with
 | true=>have:i < m:=by simpa [Nat.blt_eq] using h
         simp [this]
 | false=>have:¬ i < m:=by intro hc;rw [show Nat.blt i m=true by simpa [Nat.blt_eq] using hc] at h;cases h
          simp [this]
mutual
theorem belV_ok {g:Ge G} (hg:g.Ok) {ln:Nat→Nat} {m:Nat}:∀ (v:TV G) (b:Bool),belV m v=some b→(v.av g ln).bel m=b
 | .own i,b,h=>by injection h with h;rw [←h,blt_lt];rfl
 | .po i o,b,h=>by injection h with h;rw [←h,blt_lt];rfl
 | .pe i n o,b,h=>by injection h with h;rw [←h,blt_lt];rfl
 | .pa i sz n o,b,h=>by injection h with h;rw [←h,blt_lt];rfl
 | .sa i lo len _ _,b,h=>by
  rw [belV] at h
  split at h
  ·rename_i hc
   injection h with h;subst h
   show AV.bel m (if len=0 then .ro [] else .arr i 1 0 lo 1 len)=true
   split
   ·rfl
   ·rw [blt_lt] at hc;exact hc
  ·cases h
 | .agg l,b,h=>belsV_ok hg l b h
 | .tup l,b,h=>belsV_ok hg l b h
 | .fn _ l,b,h=>belsV_ok hg l b h
 | .raw v,b,h=>by injection h with h
 | .int _ _,b,h | .bool _,b,h | .str _,b,h | .lst _ _,b,h=>by injection h with h
 | .pro l,b,h=>by
  rw [belV] at h
  split at h
  ·injection h with h
  ·cases h
 | .rol l,b,h=>by
  rw [belV] at h
  split at h
  ·injection h with h
  ·cases h
 | .olst t o,b,h=>by injection h with h;subst h;cases o<;>rfl
 | .optr t o,b,h=>by injection h with h;subst h;cases o<;>rfl
 | .arr n t a,b,h=>by injection h with h;subst h;exact bels_mono0 ((encOk hg (.arr n t)).bel a)
theorem belsV_ok {g:Ge G} (hg:g.Ok) {ln:Nat→Nat} {m:Nat}:∀ (l:List (TV G)) (b:Bool),belsV m l=some b→AV.bels m (TV.avs g ln l)=b
 | [],b,h=>by injection h with h
 | x::l,b,h=>by
  rw [belsV] at h
  split at h
  case h_2=>cases h
  rename_i p hp
  split at h
  case h_2=>cases h
  rename_i q hq
  injection h with h;subst h
  simp only [TV.avs,AV.bels,belV_ok hg x p hp,belsV_ok hg l q hq]
end
mutual
theorem bel_keep {g:Ge G} {ln ln':Nat→Nat} {m:Nat} (hl:∀ j,j < m→ln' j=ln j):∀ (v:TV G),belV m v=some true→v.av g ln'=v.av g ln
 | .own i,h=>by
  injection h with h;rw [blt_lt,decide_eq_true_eq] at h
  rw [TV.av,TV.av,hl i h]
 | .pe i n o,h=>by
  injection h with h;rw [blt_lt,decide_eq_true_eq] at h
  rw [TV.av,TV.av,hl i h]
 | .agg l,h=>by rw [TV.av,TV.av,bels_keep hl l h]
 | .tup l,h=>by rw [TV.av,TV.av,bels_keep hl l h]
 | .fn _ l,h=>by rw [TV.av,TV.av,bels_keep hl l h]
 | .int _ _,h | .bool _,h | .str _,h | .lst _ _,h | .olst _ _,h | .arr ..,h | .optr ..,h | .raw _,h | .po ..,h | .pa ..,h | .sa ..,h=>rfl
 | .rol es,h=>by
  rw [belV] at h
  split at h
  ·rename_i hc;rw [TV.av,TV.av,indepss_av es hc]
  ·cases h
 | .pro l,h=>by
  rw [belV] at h
  split at h
  ·rename_i hc;rw [TV.av,TV.av,indeps_av l hc]
  ·cases h
theorem bels_keep {g:Ge G} {ln ln':Nat→Nat} {m:Nat} (hl:∀ j,j < m→ln' j=ln j):∀ (l:List (TV G)),belsV m l=some true→TV.avs g ln' l=TV.avs g ln l
 | [],_=>rfl
 | x::l,h=>by
  rw [belsV] at h
  split at h
  case h_2=>cases h
  rename_i p hp
  split at h
  case h_2=>cases h
  rename_i q hq
  injection h with h
  rw [Bool.and_eq_true] at h
  rw [h.1] at hp;rw [h.2] at hq
  rw [TV.avs,TV.avs,bel_keep hl x hp,bels_keep hl l hq]
end
def belSl (m:Nat):List (Nat×TV G)→Option Bool
 | []=>some true
 | x::xs=>(match belV m x.2 with
  | some a=>(match belSl m xs with | some b=>some (a&&b) | none=>none)
  | none=>none)
theorem belSl_ok {g:Ge G} (hg:g.Ok) {ln:Nat→Nat} {m:Nat}:∀ {l:List (Nat×TV G)} {b:Bool},belSl m l=some b→T.belsL m (avL g ln l)=b
 | [],b,h=>by injection h with h
 | x::l,b,h=>by
  rw [belSl] at h
  split at h
  case h_2=>cases h
  rename_i p hp
  split at h
  case h_2=>cases h
  rename_i q hq
  injection h with h;subst h
  show ((x.2.av g ln).bel m&&T.belsL m (avL g ln l))=_
  rw [belV_ok hg _ p hp,belSl_ok hg hq]
theorem belSl_keep {g:Ge G} {ln ln':Nat→Nat} {m:Nat} (hl:∀ j,j < m→ln' j=ln j):∀ {l:List (Nat×TV G)},belSl m l=some true→avL g ln' l=avL g ln l
 | [],_=>rfl
 | x::l,h=>by
  rw [belSl] at h
  split at h
  case h_2=>cases h
  rename_i p hp
  split at h
  case h_2=>cases h
  rename_i q hq
  injection h with h
  rw [Bool.and_eq_true] at h
  rw [h.1] at hp;rw [h.2] at hq
  show (x.1,_)::avL g ln' l=(x.1,_)::avL g ln l
  rw [bel_keep hl _ hp,belSl_keep hl hq]
def belssV (m:Nat):List (List (TV G))→Option Bool
 | []=>some true
 | x::xs=>(match belsV m x with
  | some a=>(match belssV m xs with | some b=>some (a&&b) | none=>none)
  | none=>none)
theorem belssV_ok {g:Ge G} (hg:g.Ok) {ln:Nat→Nat} {m:Nat}:∀ {l:List (List (TV G))} {b:Bool},belssV m l=some b→AV.belss m (TV.avss g ln l)=b
 | [],b,h=>by injection h with h
 | x::l,b,h=>by
  rw [belssV] at h
  split at h
  case h_2=>cases h
  rename_i p hp
  split at h
  case h_2=>cases h
  rename_i q hq
  injection h with h;subst h
  simp only [TV.avss,AV.belss,belsV_ok hg x p hp,belssV_ok hg hq]
theorem belssV_keep {g:Ge G} {ln ln':Nat→Nat} {m:Nat} (hl:∀ j,j < m→ln' j=ln j):∀ {l:List (List (TV G))},belssV m l=some true→TV.avss g ln' l=TV.avss g ln l
 | [],_=>rfl
 | x::l,h=>by
  rw [belssV] at h
  split at h
  case h_2=>cases h
  rename_i p hp
  split at h
  case h_2=>cases h
  rename_i q hq
  injection h with h
  rw [Bool.and_eq_true] at h
  rw [h.1] at hp;rw [h.2] at hq
  rw [TV.avss,TV.avss,bels_keep hl _ hp,belssV_keep hl hq]
def belO (m:Nat) (fb:Bool):List (TO G)→Option Bool
 | []=>some true
 | .box l::r=>(match belsV m l with
  | some a=>(match belO m fb r with | some b=>some (a&&b) | none=>none)
  | none=>none)
 | .raws _ _ es::r=>if freess es&&indepss es then belO m fb r else (match belssV m es with
  | some a=>(match belO m fb r with | some b=>some (a&&b) | none=>none)
  | none=>none)
 | .mix ..::r=>none
 | .lp ..::r=>if fb then belO m fb r else none
 | _::r=>belO m fb r
theorem bel_free {g:Ge G} (hg:g.Ok) {ln:Nat→Nat} {m:Nat} {es:List (List (TV G))} (h:freess es=true):AV.belss m (TV.avss g ln es)=true:=by
 have h0:=freess_bel hg ln es h
 have:∀ {l:List (List AV)},AV.belss 0 l=true→AV.belss m l=true:=by
  intro l
  induction l with
  | nil=>intro _;rfl
  | cons x l ih=>
   intro h
   simp only [AV.belss,Bool.and_eq_true] at h ⊢
   exact ⟨bels_mono0 h.1,ih h.2⟩
 exact this h0
theorem bels_toL {m:Nat} {τ:T} (h:T.belsL m τ.l=true):AV.bels m τ.toL=true:=by
 have h1:∀ (l:List (Nat×AV)),T.belsL m l=true→∀ i,(T.getL l i).bel m=true:=by
  intro l
  induction l with
  | nil=>intro _ i;simp [T.getL,AV.bel]
  | cons x r ih=>
   obtain ⟨k,v⟩:=x
   intro h
   simp only [T.belsL,Bool.and_eq_true] at h
   intro i
   simp only [T.getL]
   by_cases hk:k=i
   ·simp [hk,h.1]
   ·simp [hk,ih h.2 i]
 rw [bels_iffL]
 intro i
 rw [List.getD_eq_getElem?_getD]
 by_cases hi:i < τ.toL.length
 ·rw [List.getElem?_eq_getElem hi]
  simp only [T.toL,List.getElem_map,List.getElem_range,Option.getD_some]
  exact h1 _ h _
 ·rw [List.getElem?_eq_none (by omega)];simp [AV.bel]
theorem belO_ok {g:Ge G} (hg:g.Ok) {ln:Nat→Nat} {F:List (T×C3)} {m:Nat} {fb:Bool} (hF:fb=true→∀ f∈F,T.belsL m f.1.l=true):∀ {l:List (TO G)} {b:Bool},belO m fb l=some b→objsBel m (l.map (TO.av g ln F))=b
 | [],b,h=>by injection h with h
 | .box l::r,b,h=>by
  rw [belO] at h
  split at h
  case h_2=>cases h
  rename_i p hp
  split at h
  case h_2=>cases h
  rename_i q hq
  injection h with h;subst h
  show (AV.belss m [_]&&objsBel m (r.map _))=_
  rw [belO_ok hg hF hq]
  simp only [AV.belss,belsV_ok hg _ p hp,Bool.and_true]
 | .raws fl sz es::r,b,h=>by
  rw [belO] at h
  split at h
  ·rename_i hc
   rw [Bool.and_eq_true] at hc
   show (AV.belss m (TV.avss g ln es)&&objsBel m (r.map _))=_
   rw [belO_ok hg hF h,bel_free hg hc.1,Bool.true_and]
  ·split at h
   case h_2=>cases h
   rename_i p hp
   split at h
   case h_2=>cases h
   rename_i q hq
   injection h with h;subst h
   show (AV.belss m (TV.avss g ln es)&&objsBel m (r.map _))=_
   rw [belO_ok hg hF hq,belssV_ok hg hp]
 | .lst fl t l::r,b,h=>by
  have h:belO m fb r=some b:=h
  show (AV.belss m (l.map (enc g t))&&objsBel m (r.map _))=_
  rw [belO_ok hg hF h,belss_mapn (encOk hg t).bel m l,Bool.true_and]
 | .arr n t a::r,b,h=>by
  have h:belO m fb r=some b:=h
  show (AV.belss m [(List.map (enc g t) a.1).flatten]&&objsBel m (r.map _))=_
  rw [belO_ok hg hF h]
  simp only [AV.belss,Bool.and_true]
  have e:AV.bels m (List.map (enc g t) a.1).flatten=true:=bels_mono0 ((encOk hg (.arr n t)).bel a)
  exact (congrArg (·&&b) e).trans (Bool.true_and b)
 | .dead::r,b,h=>by
  have h:belO m fb r=some b:=h
  show (true&&objsBel m (r.map _))=_
  rw [belO_ok hg hF h,Bool.true_and]
 | .rsv::r,b,h=>by
  have h:belO m fb r=some b:=h
  show (true&&objsBel m (r.map _))=_
  rw [belO_ok hg hF h,Bool.true_and]
 | .lp ls fi::r,b,h=>by
  have h:(if fb then belO m fb r else none)=some b:=h
  split at h
  case isFalse=>cases h
  rename_i hb
  show (Obj.bel m (TO.av g ln F (.lp ls fi))&&objsBel m (r.map _))=_
  rw [belO_ok hg hF h]
  have:Obj.bel m (TO.av g ln F (.lp ls fi))=true:=by
   show Obj.bel m (match F[fi]? with | some f=> .lp ls f.1.toL f.2.1 f.2.2.1 f.2.2.2 | none=> .dead)=true
   cases e:F[fi]? with
   | none=>rfl
   | some f=>exact bels_toL (hF hb f (List.mem_of_getElem? e))
  rw [this,Bool.true_and]
 | .mix ..::r,b,h=>by cases h
theorem belO_keep {g:Ge G} {ln ln':Nat→Nat} {F:List (T×C3)} {m:Nat} {fb:Bool} (hl:∀ j,j < m→ln' j=ln j):∀ {l:List (TO G)},belO m fb l=some true→l.map (TO.av g ln' F)=l.map (TO.av g ln F)
 | [],_=>rfl
 | .box l::r,h=>by
  rw [belO] at h
  split at h
  case h_2=>cases h
  rename_i p hp
  split at h
  case h_2=>cases h
  rename_i q hq
  injection h with h
  rw [Bool.and_eq_true] at h
  rw [h.1] at hp;rw [h.2] at hq
  show Obj.live _ _ [_]::r.map _=Obj.live _ _ [_]::r.map _
  rw [bels_keep hl _ hp,belO_keep hl hq]
 | .raws fl sz es::r,h=>by
  rw [belO] at h
  split at h
  ·rename_i hc
   rw [Bool.and_eq_true] at hc
   show Obj.live _ _ _::r.map _=Obj.live _ _ _::r.map _
   rw [indepss_av es hc.2,belO_keep hl h]
  ·split at h
   case h_2=>cases h
   rename_i p hp
   split at h
   case h_2=>cases h
   rename_i q hq
   injection h with h
   rw [Bool.and_eq_true] at h
   rw [h.1] at hp;rw [h.2] at hq
   show Obj.live _ _ _::r.map _=Obj.live _ _ _::r.map _
   rw [belssV_keep hl hp,belO_keep hl hq]
 | .lst fl t l::r,h=>by
  have h:belO m fb r=some true:=h
  show _::r.map _=_::r.map _
  rw [belO_keep hl h];rfl
 | .arr n t a::r,h=>by
  have h:belO m fb r=some true:=h
  show _::r.map _=_::r.map _
  rw [belO_keep hl h];rfl
 | .dead::r,h=>by
  have h:belO m fb r=some true:=h
  show _::r.map _=_::r.map _
  rw [belO_keep hl h];rfl
 | .rsv::r,h=>by
  have h:belO m fb r=some true:=h
  show _::r.map _=_::r.map _
  rw [belO_keep hl h];rfl
 | .lp ..::r,h=>by
  have h:(if fb then belO m fb r else none)=some true:=h
  split at h
  case isFalse=>cases h
  show _::r.map _=_::r.map _
  rw [belO_keep hl h];rfl
 | .mix ..::r,h=>by cases h
def belF (m:Nat):List (Nat×List (Nat×TV G)×C3)→Bool
 | []=>true
 | f::r=>(match belSl m f.2.1 with | some b=>b | none=>false)&&belF m r
theorem belF_keep {g:Ge G} {ln ln':Nat→Nat} {m:Nat} (hl:∀ j,j < m→ln' j=ln j):∀ {l:List (Nat×List (Nat×TV G)×C3)},belF m l=true→(l.map fun f=>((⟨f.1,avL g ln' f.2.1⟩:T),f.2.2))=l.map fun f=>(⟨f.1,avL g ln f.2.1⟩,f.2.2)
 | [],_=>rfl
 | f::r,h=>by
  rw [belF,Bool.and_eq_true] at h
  have h1:belSl m f.2.1=some true:=by
   have:=h.1
   split at this
   ·rename_i b hb;rw [hb,this]
   ·cases this
  rw [List.map_cons,List.map_cons,belF_keep hl h.2,belSl_keep hl h1]
theorem belF_ok {g:Ge G} (hg:g.Ok) {ln:Nat→Nat} {m:Nat}:∀ {l:List (Nat×List (Nat×TV G)×C3)},belF m l=true→∀ f∈(l.map fun f=>((⟨f.1,avL g ln f.2.1⟩:T),f.2.2)),T.belsL m f.1.l=true
 | [],_,_,hf=>by cases hf
 | f::r,h,x,hx=>by
  rw [belF,Bool.and_eq_true] at h
  have h1:belSl m f.2.1=some true:=by
   have:=h.1
   split at this
   ·rename_i b hb;rw [hb,this]
   ·cases this
  rcases List.mem_cons.mp hx with hx | hx
  ·subst hx;exact belSl_ok hg h1
  ·exact belF_ok hg h.2 x hx
def notOwn:TV G→Bool
 | .own _=>false
 | .sa ..=>false
 | .raw v=>(match v with | .own ..=>false | _=>true)
 | _=>true
theorem notOwn_ok {g:Ge G} {ln:Nat→Nat} {v:TV G} (h:notOwn v=true):∀ id e o l,v.av g ln≠ .own id e o l:=by
 intro id e o l hv
 cases v with
 | own i=>cases h
 | raw a=>simp only [TV.av] at hv;subst hv;cases h
 | olst t o=>cases o<;>cases hv
 | optr t o=>cases o<;>cases hv
 | sa i lo len=>cases h
 | _=>cases hv
def notPtr:TV G→Bool
 | .po .. | .pe .. | .pa ..=>false
 | .raw v=>(match v with | .pown ..=>false | _=>true)
 | _=>true
theorem notPtr_ok {g:Ge G} {ln:Nat→Nat} {v:TV G} (h:notPtr v=true):∀ id e i o,v.av g ln≠ .pown id e i o:=by
 intro id e i o hv
 cases v with
 | po i o=>cases h
 | pe i n o=>cases h
 | pa i s n o=>cases h
 | raw a=>simp only [TV.av] at hv;subst hv;cases h
 | olst t o=>cases o<;>cases hv
 | optr t o=>cases o<;>cases hv
 | sa i lo len=>simp only [TV.av] at hv;split at hv<;>cases hv
 | _=>cases hv
def notNil:TV G→Bool
 | .olst ..=>false
 | .raw v=>(match v with | .nils=>false | _=>true)
 | _=>true
theorem notNil_ok {g:Ge G} {ln:Nat→Nat} {v:TV G} (h:notNil v=true):v.av g ln≠ .nils:=by
 intro hv
 cases v with
 | olst t o=>cases h
 | optr t o=>cases o<;>cases hv
 | raw a=>simp only [TV.av] at hv;subst hv;cases h
 | sa i lo len=>simp only [TV.av] at hv;split at hv<;>cases hv
 | _=>cases hv
def Ty.wk:Ty→Bool
 | .olist _=>false
 | .arr _ t=>t.wk
 | _=>true
end
def Ge.Wk {G:Nat→Type} (g:Ge G):Prop:=∀ i x,(g.enc i x).map AV.wk1=g.enc i x
section
variable {G:Nat→Type} {R:Type}
theorem enc_wk {g:Ge G} (hw:g.Wk):∀ {t:Ty} (x:t.D G),t.wk=true→(enc g t x).map AV.wk1=enc g t x
 | .int _,_,_ | .bool,_,_ | .str,_,_ | .list _,_,_=>rfl
 | .olist _,_,h=>by cases h
 | .ptr _,_,_=>rfl
 | .optr _,o,_=>by cases o<;>rfl
 | .st i,x,_=>hw i x
 | .arr n t,a,h=>by
  show List.map AV.wk1 (List.map (enc g t) a.1).flatten=(List.map (enc g t) a.1).flatten
  induction a.1 with
  | nil=>rfl
  | cons x l ih=>rw [List.map_cons,List.flatten_cons,List.map_append,enc_wk hw (t:=t) x h,ih]
def wkV:TV G→Option (TV G)
 | .raw v=>(match v with | .nils=>some (.rol []) | v=>some (.raw v.wk))
 | .arr n t a=>if t.wk then some (.arr n t a) else none
 | .agg l=>some (.agg (l.map wk1V))
 | .tup l=>none
 | .olst t o=>some (.lst t (o.getD []))
 | v=>some v
theorem wkV_ok {g:Ge G} (hw:g.Wk) {ln:Nat→Nat} {v w:TV G} (h:wkV v=some w):w.av g ln=(v.av g ln).wk:=by
 cases v with
 | raw a=>
  unfold wkV at h
  dsimp only at h
  split at h
  ·injection h with h;subst h;rfl
  ·injection h with h;subst h;rfl
 | arr n t a=>
  unfold wkV at h
  dsimp only at h
  split at h
  case isFalse=>cases h
  rename_i hc
  injection h with h;subst h
  show AV.agg _=AV.agg (List.map AV.wk1 (List.map (enc g t) a.1).flatten)
  have:=enc_wk hw (t:= .arr n t) a hc
  exact congrArg AV.agg this.symm
 | agg l=>injection h with h;subst h;show AV.agg _=AV.agg _;rw [wk1s_ok]
 | tup l=>cases h
 | olst t o=>injection h with h;subst h;cases o<;>rfl
 | optr t o=>injection h with h;subst h;cases o<;>rfl
 | sa i lo len=>injection h with h;subst h;show (if len=0 then AV.ro [] else .arr i 1 0 lo 1 len)=AV.wk (if len=0 then AV.ro [] else .arr i 1 0 lo 1 len);split<;>rfl
 | _=>injection h with h;subst h;rfl
def wkO (g:Ge G):TO G→Option (TO G)
 | .box l=>some (.box (l.map wk1V))
 | .lst fl t l=>if t.wk then some (.lst fl t l) else none
 | .raws fl sz es=>some (.raws fl sz (es.map (List.map wk1V)))
 | .mix fl t l es=>if t.wk then (match rawsT g t (es.map (List.map wk1V)) with | some m=>some (.lst fl t (l++m)) | none=>none) else none
 | .arr n t a=>if t.wk then some (.arr n t a) else none
 | .dead=>some .dead
 | _=>none
theorem wkO_ok {g:Ge G} (hg:g.Ok) (hw:g.Wk) {ln:Nat→Nat} {F:List (T×C3)} {o o':TO G} (h:wkO g o=some o'):o'.av g ln F=(o.av g ln F).wk∧o'.len=o.len:=by
 cases o with
 | box l=>
  injection h with h;subst h
  refine ⟨?_,rfl⟩
  show Obj.live _ _ [_]=Obj.live _ _ [_]
  rw [wk1s_ok,List.length_map]
 | lst fl t l=>
  unfold wkO at h
  dsimp only at h
  split at h
  case isFalse=>cases h
  rename_i hc
  injection h with h;subst h
  refine ⟨?_,rfl⟩
  show Obj.live _ _ _=Obj.live _ _ _
  rw [List.map_map]
  congr 1
  exact (List.map_congr_left fun x _=>enc_wk hw x hc).symm
 | raws fl sz es=>
  injection h with h;subst h
  refine ⟨?_,by simp [TO.len]⟩
  show Obj.live _ _ _=Obj.live _ _ _
  rw [avss_map,avss_map,List.map_map,List.map_map]
  congr 1
  exact List.map_congr_left fun x _=>wk1s_ok x
 | mix fl t l es=>
  unfold wkO at h
  dsimp only at h
  split at h
  case isFalse=>cases h
  rename_i hc
  split at h
  case h_2=>cases h
  rename_i m hm
  injection h with h;subst h
  obtain ⟨h1,h2⟩:=rawsT_ok hg ln hm
  refine ⟨?_,by simp [TO.len] at h2 ⊢;omega⟩
  show Obj.live _ _ _=Obj.live _ _ _
  rw [List.map_append,List.map_append,List.map_map]
  congr 1
  congr 1
  ·exact (List.map_congr_left fun x _=>enc_wk hw x hc).symm
  ·rw [←h1,avss_map,avss_map,List.map_map,List.map_map]
   exact List.map_congr_left fun x _=>wk1s_ok x
 | arr n t a=>
  unfold wkO at h
  dsimp only at h
  split at h
  case isFalse=>cases h
  rename_i hc
  injection h with h;subst h
  refine ⟨?_,rfl⟩
  show Obj.live _ _ [_]=Obj.live _ _ [_]
  have:=enc_wk hw (t:= .arr n t) a hc
  congr 2
  exact this.symm
 | dead=>injection h with h;subst h;exact ⟨rfl,rfl⟩
 | _=>cases h
def wkAt (g:Ge G) (s:DS G) (id:Nat):Option (DS G):=match s.H[id]? with
 | some o=>(match wkO g o with | some o'=>some (s.setN id o') | none=>none)
 | none=>none
def isSa:TV G→Bool
 | .sa ..=>true
 | _=>false
theorem isSa_ok {g:Ge G} {ln:Nat→Nat} {v:TV G} (h:isSa v=true):∀ id e o l,v.av g ln≠ .own id e o l:=by
 intro id e o l hv
 cases v with
 | sa i lo len=>simp only [TV.av] at hv;split at hv<;>cases hv
 | _=>cases h
def wkHV (g:Ge G) (s:DS G) (v:TV G):Option (DS G):=match v with
 | .own id=>wkAt g s id
 | .po id _=>wkAt g s id
 | .pe id _ _=>wkAt g s id
 | .pa id _ _ _=>wkAt g s id
 | v=>if (notOwn v||isSa v)&&notPtr v then some s else none
def wksV (g:Ge G):List Nat→DS G→Option (DS G)
 | [],s=>some s
 | t::ts,s=>(match wkV (s.get t) with
  | some w=>(match wkHV g s (s.get t) with
   | some s1=>wksV g ts (s1.put t w)
   | none=>none)
  | none=>none)
theorem wkAt_ok {g:Ge G} (hg:g.Ok) (hw:g.Wk) {s s':DS G} {id:Nat} (h:wkAt g s id=some s'):(match (s.Hv g)[id]? with | some o=>(s.Hv g).set id o.wk | none=>s.Hv g)=s'.Hv g∧s'.ln=s.ln∧s'.tm g=s.tm g∧s'.FR g=s.FR g:=by
 unfold wkAt at h
 split at h
 case h_2=>cases h
 rename_i o ho
 split at h
 case h_2=>cases h
 rename_i o' ho'
 injection h with h;subst h
 obtain ⟨k1,k2⟩:=wkO_ok (g:=g) (ln:=s.ln) (F:=s.FR g) hg hw ho'
 obtain ⟨e1,e2,e3,e4⟩:=setN_ok (g:=g) (o':=o') ho k2
 refine ⟨?_,e1,e2,e3⟩
 rw [Hv_get ho,e4,k1]
theorem wkHV_ok {g:Ge G} (hg:g.Ok) (hw:g.Wk) {s s':DS G} {v:TV G} (h:wkHV g s v=some s'):wkH (s.Hv g) (v.av g s.ln)=s'.Hv g∧s'.ln=s.ln∧s'.tm g=s.tm g∧s'.FR g=s.FR g:=by
 have other:∀ {v:TV G},(∀ id e o l,v.av g s.ln≠ .own id e o l)→(∀ id e i o,v.av g s.ln≠ .pown id e i o)→wkH (s.Hv g) (v.av g s.ln)=s.Hv g:=by
  intro v h1 h2
  unfold wkH
  split
  ·rename_i e;exact (h2 _ _ _ _ e).elim
  ·rename_i e;exact (h1 _ _ _ _ e).elim
  ·rfl
 unfold wkHV at h
 split at h
 ·exact wkAt_ok hg hw h
 ·exact wkAt_ok hg hw h
 ·exact wkAt_ok hg hw h
 ·exact wkAt_ok hg hw h
 ·split at h
  case isFalse=>cases h
  rename_i hn
  rw [Bool.and_eq_true] at hn
  injection h with h;subst h
  refine ⟨other ?_ (notPtr_ok hn.2),rfl,rfl,rfl⟩
  rcases (Bool.or_eq_true _ _).mp hn.1 with hn | hn
  ·exact notOwn_ok hn
  ·exact isSa_ok hn
theorem wksV_ok {g:Ge G} (hg:g.Ok) (hw:g.Wk):∀ {ts:List Nat} {s s':DS G},wksV g ts s=some s'→wksT ts (s.st g)=s'.st g∧s'.FR g=s.FR g
 | [],s,s',h=>by injection h with h;subst h;exact ⟨rfl,rfl⟩
 | t::ts,s,s',h=>by
  rw [wksV] at h
  split at h
  case h_2=>cases h
  rename_i w hw'
  split at h
  case h_2=>cases h
  rename_i s1 h1
  obtain ⟨k1,k2,k3,k4⟩:=wkHV_ok hg hw h1
  obtain ⟨e1,e2⟩:=wksV_ok hg hw h
  refine ⟨?_,by rw [e2,DS.put_FR,k4]⟩
  rw [wksT,←e1]
  congr 1
  show (⟨_,_⟩:ST)=⟨(s1.put t w).tm g,(s1.put t w).Hv g⟩
  rw [DS.put_tm,DS.put_Hv,k3,k2,←k1,wkV_ok hw hw',←DS.get_av];rfl
def DS.killS (s:DS G):List Nat→DS G
 | []=>s
 | d::ds=>DS.killS ⟨s.sz,delS s.sl d,s.H,s.fr⟩ ds
theorem kill_ok {g:Ge G}:∀ {l:List Nat} {s:DS G},(s.killS l).st g=⟨T.kills l (s.tm g),s.Hv g⟩∧(s.killS l).FR g=s.FR g
 | [],s=>⟨rfl,rfl⟩
 | d::l,s=>by
  rw [DS.killS]
  obtain ⟨e1,e2⟩:=kill_ok (g:=g) (l:=l) (s:=⟨s.sz,delS s.sl d,s.H,s.fr⟩)
  refine ⟨?_,e2⟩
  rw [e1,T.kills]
  show (⟨T.kills l ⟨s.sz,avL g s.ln (delS s.sl d)⟩,_⟩:ST)=⟨T.kills l ⟨s.sz,T.delL (avL g s.ln s.sl) d⟩,_⟩
  rw [delS_av];rfl
def DS.cutH (s:DS G) (m:Nat):DS G:=⟨s.sz,s.sl,s.H.take m,s.fr⟩
def frzV (s:DS G) (t:Nat):Option (DS G):=match s.get t with
 | .own id=>(match s.H[id]? with
  | some (.lst fl u l)=>if fl.free then some ((s.setO id .dead).put t (.lst u l)) else some s
  | some (.raws fl sz es)=>if fl.free then (if freess es&&indepss es then some ((s.setO id .dead).put t (.rol es)) else (match belssV 0 es with | some false=>some s | _=>none)) else some s
  | _=>none)
 | v=>if notOwn v||isSa v then some s else none
def frzpV (s:DS G) (t:Nat):Option (DS G):=match s.get t with
 | .po id o=>if Nat.beq o 0 then (match s.H[id]? with
  | some (.box cs)=>if TV.frees cs&&indeps cs then some ((s.setN id .dead).put t (.pro cs)) else none
  | _=>none) else some s
 | v=>if notPtr v then some s else none
def frzbW (s:DS G) (id j o n:Nat) (v:TV G):Option (DS G):=match (s.setO j .dead).H[id]? with
 | some (.box cs')=>if Nat.beq cs'.length n then some ((s.setO j .dead).setN id (.box (cs'.set o v))) else none
 | _=>none
def frzbV (s:DS G) (t off:Nat):Option (DS G):=match s.get t with
 | .po id o=>(match s.H[id]? with
  | some (.box cs)=>(match cs[o+off]? with
   | some (.own j)=>if Nat.beq j id then none else (match s.H[j]? with
    | some (.lst fl u l)=>if fl.free then frzbW s id j (o+off) cs.length (.lst u l) else some s
    | some (.raws fl sz es)=>if fl.free&&(freess es&&indepss es) then frzbW s id j (o+off) cs.length (.rol es) else none
    | _=>none)
   | some v=>if notOwn v then some s else none
   | none=>none)
  | _=>none)
 | v=>if notPtr v then some s else none
def promV (s:DS G) (t sz:Nat):Option (DS G):=match s.get t with
 | .raw v=>(match v with
  | .nils=>if s.fits s.H.length (.raws .nil sz []) then some ((s.newO s.H.length (.raws .nil sz [])).put t (.own s.H.length)) else none
  | _=>some s)
 | v=>if notNil v then some s else none
def promfV (s:DS G) (t off sz:Nat):Option (DS G):=match s.get t with
 | .po id o=>(match s.H[id]? with
  | some (.box cs)=>(match cs[o+off]? with
   | some (.raw v)=>(match v with
    | .nils=>if s.fits s.H.length (.raws .nil sz []) then some ((s.newO s.H.length (.raws .nil sz [])).setN id (.box (cs.set (o+off) (.own s.H.length)))) else none
    | _=>some s)
   | some v=>if notNil v then some s else none
   | none=>none)
  | _=>none)
 | v=>if notPtr v then some s else none
def truncV (s:DS G) (m:Nat):Option (DS G):=
 if Nat.blt m s.H.length then
  (match belSl m s.sl with
   | some true=>(match belO m (belF m s.fr) (s.H.take m) with
    | some true=>if belF m s.fr then some (s.cutH m) else none
    | some false=>some s
    | none=>none)
   | some false=>some s
   | none=>none)
 else some s
def gh1V (g:Ge G) (b:Nat) (s:DS G):GA→Option (DS G)
 | .kill l=>some (s.killS l)
 | .wk l=>wksV g l s
 | .trunc n=>truncV s (b+n)
 | .frz t=>frzV s t
 | .frzp t=>frzpV s t
 | .frzb t off=>frzbV s t off
 | .prom t sz=>promV s t sz
 | .promf t off sz=>promfV s t off sz
 | .sh t=>if notOwn (s.get t) then some s else none
 | .res t=>if notOwn (s.get t) then some s else none
 | .cut _=>none
def ghV (g:Ge G) (b:Nat):List GA→DS G→Option (DS G)
 | [],s=>some s
 | a::r,s=>(match gh1V g b s a with | some s'=>ghV g b r s' | none=>none)
theorem setO_st {g:Ge G} {s:DS G} {id:Nat} {o o':TO G} (hid:s.H[id]?=some o) (t:Nat) (v:TV G):((s.setO id o').put t v).st g=⟨(s.tm g).put t (v.av g (s.setO id o').ln),(s.Hv g).set id (o'.av g (s.setO id o').ln (s.FR g))⟩∧((s.setO id o').put t v).FR g=s.FR g:=by
 obtain ⟨e1,e2,e3,e4⟩:=setO_ok (g:=g) (o':=o') hid
 refine ⟨?_,by rw [DS.put_FR,e3]⟩
 show (⟨DS.tm g _,DS.Hv g _⟩:ST)=_
 rw [DS.put_tm,DS.put_Hv,e2,e4]
theorem frzV_ok {g:Ge G} (hg:g.Ok) {s s':DS G} {t:Nat} (h:frzV s t=some s'):ghost1T 0 (s.st g) (.frz t)=some (s'.st g)∧s'.FR g=s.FR g:=by
 have hget:(s.st g).tmps.get t=(s.get t).av g s.ln:=DS.get_av g s t
 have other:∀ {v:TV G},(s.get t)=v→(∀ id e o l,v.av g s.ln≠ .own id e o l)→ghost1T 0 (s.st g) (.frz t)=some (s.st g):=by
  intro v hv hn
  have:frzT t (s.st g)=some (s.st g):=by
   unfold frzT
   rw [hget,hv]
   split
   ·rename_i e;exact (hn _ _ _ _ e).elim
   ·rfl
  simp only [ghost1T,this]
 unfold frzV at h
 split at h
 ·rename_i id hv
  rw [hv] at hget
  split at h
  ·rename_i fl u l hid
   have hH:=Hv_get (g:=g) hid
   have hn:nlAt (s.Hv g) id=fl:=by unfold nlAt;rw [hH];rfl
   have hfz:frzT t (s.st g)=if fl.free=true then some ⟨(s.tm g).put t (.ro (l.map (enc g u))),(s.Hv g).set id .dead⟩ else none:=by
    unfold frzT
    rw [hget]
    show (match getLive (s.Hv g) id with | some (_,es)=>_ | none=>none)=_
    simp only [getLive,hH,TO.av,setN_lst hid,List.length_map,List.drop_zero]
    rw [List.take_of_length_le (by simp),show nlAt (s.st g).H id=fl from hn]
    by_cases hf:fl.free=true
    ·rw [if_pos ⟨trivial,belss_map (encOk hg u).bel l,hf⟩,if_pos hf];rfl
    ·rw [if_neg (fun h=>hf h.2.2),if_neg hf]
   split at h
   ·rename_i hf
    injection h with h;subst h
    obtain ⟨e1,e2⟩:=setO_st (g:=g) (o':= .dead) hid t (.lst u l)
    refine ⟨?_,e2⟩
    rw [ghost1T,hfz,if_pos hf,e1];rfl
   ·rename_i hf
    injection h with h;subst h
    refine ⟨?_,rfl⟩
    rw [ghost1T,hfz,if_neg hf]
  ·rename_i fl sz es hid
   have hH:=Hv_get (g:=g) hid
   have hn:nlAt (s.Hv g) id=fl:=by unfold nlAt;rw [hH];rfl
   have hl:s.ln id=es.length:=by unfold DS.ln lnH;rw [hid];rfl
   have hfz:freess es=true∨fl.free=false→frzT t (s.st g)=if fl.free=true then some ⟨(s.tm g).put t (.ro (TV.avss g s.ln es)),(s.Hv g).set id .dead⟩ else none:=by
    intro hfr
    unfold frzT
    rw [hget]
    show (match getLive (s.Hv g) id with | some (_,es)=>_ | none=>none)=_
    have hle:(TV.avss g s.ln es).length=es.length:=by rw [avss_map,List.length_map]
    simp only [getLive,hH,TO.av,hl,hle,List.drop_zero]
    rw [List.take_of_length_le (by rw [hle];exact Nat.le_refl _),show nlAt (s.st g).H id=fl from hn]
    by_cases hf:fl.free=true
    ·rw [if_pos ⟨trivial,freess_bel hg s.ln es (by rcases hfr with h | h;exact h;rw [hf] at h;cases h),hf⟩,if_pos hf];rfl
    ·rw [if_neg (fun h=>hf h.2.2),if_neg hf]
   split at h
   ·rename_i hf
    split at h
    ·rename_i hc
     rw [Bool.and_eq_true] at hc
     injection h with h;subst h
     obtain ⟨e1,e2⟩:=setO_st (g:=g) (o':= .dead) hid t (.rol es)
     refine ⟨?_,e2⟩
     rw [ghost1T,hfz (.inl hc.1),if_pos hf,e1]
     show some (⟨_,_⟩:ST)=some ⟨(s.tm g).put t (.ro _),_⟩
     rw [indepss_av es hc.2];rfl
    ·split at h
     case h_2=>cases h
     rename_i hb
     injection h with h;subst h
     refine ⟨?_,rfl⟩
     have hle:(TV.avss g s.ln es).length=es.length:=by rw [avss_map,List.length_map]
     have:frzT t (s.st g)=none:=by
      unfold frzT
      rw [hget]
      show (match getLive (s.Hv g) id with | some (_,es)=>_ | none=>none)=_
      simp only [getLive,hH,TO.av,hl,hle,List.drop_zero]
      rw [List.take_of_length_le (by rw [hle];exact Nat.le_refl _),if_neg]
      intro hc
      rw [belssV_ok hg hb] at hc
      cases hc.2.1
     rw [ghost1T,this]
   ·rename_i hf
    injection h with h;subst h
    refine ⟨?_,rfl⟩
    rw [ghost1T,hfz (.inr (by simpa using hf)),if_neg hf]
  ·cases h
 ·rename_i v hv
  split at h
  case isFalse=>cases h
  rename_i hc
  injection h with h;subst h
  refine ⟨other rfl ?_,rfl⟩
  rcases (Bool.or_eq_true _ _).mp hc with hc | hc
  ·exact notOwn_ok hc
  ·exact isSa_ok hc
theorem ghost_frz (b:Nat) (s:ST) (t:Nat):ghost1T b s (.frz t)=ghost1T 0 s (.frz t):=rfl
theorem frzpV_ok {g:Ge G} (hg:g.Ok) {s s':DS G} {b t:Nat} (h:frzpV s t=some s'):ghost1T b (s.st g) (.frzp t)=some (s'.st g)∧s'.FR g=s.FR g:=by
 have hget:(s.st g).tmps.get t=(s.get t).av g s.ln:=DS.get_av g s t
 have other:(∀ id,(s.get t).av g s.ln≠ .pown id 1 0 0)→ghost1T b (s.st g) (.frzp t)=some (s.st g):=by
  intro hn
  have:frzpT t (s.st g)=none:=by
   unfold frzpT
   rw [hget]
   split
   ·rename_i e;exact (hn _ e).elim
   ·rfl
  simp only [ghost1T,this]
 unfold frzpV at h
 split at h
 ·rename_i id o hv
  split at h
  ·rename_i ho
   have ho:=Nat.eq_of_beq_eq_true ho
   subst ho
   split at h
   case h_2=>cases h
   rename_i cs hid
   split at h
   case isFalse=>cases h
   rename_i hc
   rw [Bool.and_eq_true] at hc
   injection h with h;subst h
   have hH:=Hv_get (g:=g) hid
   obtain ⟨k1,k2,k3,k4⟩:=setN_ok (g:=g) (o':= .dead) hid rfl
   have:frzpT t (s.st g)=some ⟨(s.tm g).put t (.pro (TV.avs g s.ln cs)),(s.Hv g).set id .dead⟩:=by
    unfold frzpT
    rw [hget,hv]
    show (match (s.Hv g)[id]? with | some (.live .norm _ [cs])=>_ | _=>none)=_
    rw [hH]
    show (if AV.bels 0 (TV.avs g s.ln cs)=true then _ else none)=_
    rw [if_pos (frees_bel hg s.ln cs hc.1)];rfl
   refine ⟨?_,by rw [DS.put_FR,k3]⟩
   rw [ghost1T,this]
   show some (⟨_,_⟩:ST)=some ⟨DS.tm g _,DS.Hv g _⟩
   rw [DS.put_tm,DS.put_Hv,k2,k4,k1];rfl
  ·rename_i ho
   injection h with h;subst h
   refine ⟨other ?_,rfl⟩
   intro id' e
   rw [hv] at e
   injection e with _ _ _ e;subst e
   exact ho rfl
 ·split at h
  case isFalse=>cases h
  rename_i hn
  injection h with h;subst h
  exact ⟨other (fun id=>notPtr_ok hn id 1 0 0),rfl⟩
theorem promV_ok {g:Ge G} (hg:g.Ok) {s s':DS G} {b t sz:Nat} (h:promV s t sz=some s'):ghost1T b (s.st g) (.prom t sz)=some (s'.st g)∧s'.FR g=s.FR g:=by
 have hget:(s.st g).tmps.get t=(s.get t).av g s.ln:=DS.get_av g s t
 have other:(s.get t).av g s.ln≠ .nils→ghost1T b (s.st g) (.prom t sz)=some (s.st g):=by
  intro hn
  rw [ghost1T,hget]
  split
  ·rename_i e;exact (hn e).elim
  ·rfl
 unfold promV at h
 split at h
 ·rename_i v hv
  split at h
  ·split at h
   case isFalse=>cases h
   rename_i hf
   injection h with h;subst h
   obtain ⟨k1,k2,k3⟩:=newO_ok (g:=g) hf
   have hln:=newO_self (fits_le hf) (TO.raws .nil sz ([]:List (List (TV G))))
   refine ⟨?_,by rw [DS.put_FR,k2]⟩
   rw [ghost1T,hget,hv]
   show some (⟨(s.tm g).put t (.own (s.Hv g).length 0 0 0),s.Hv g++[.live .nil sz []]⟩:ST)=some ⟨DS.tm g _,DS.Hv g _⟩
   rw [DS.put_tm,DS.put_Hv,k1,k3,Hv_len]
   show _=some (⟨(s.tm g).put t (.own s.H.length (DS.ln _ s.H.length) 0 (DS.ln _ s.H.length)),_⟩:ST)
   rw [hln]
   unfold putObj
   rw [Hv_len,if_neg (Nat.lt_irrefl _)];rfl
  ·rename_i hne
   injection h with h;subst h
   refine ⟨other ?_,rfl⟩
   rw [hv];exact hne
 ·split at h
  case isFalse=>cases h
  rename_i hn
  injection h with h;subst h
  exact ⟨other (notNil_ok hn),rfl⟩
theorem getLive_box {g:Ge G} {s:DS G} {id:Nat} {cs:List (TV G)} (hid:s.H[id]?=some (.box cs)):getLive (s.Hv g) id=some (cs.length,[TV.avs g s.ln cs]):=by
 unfold getLive;rw [Hv_get hid];rfl
theorem load_box {g:Ge G} {s:DS G} {id o:Nat} {cs:List (TV G)} (hid:s.H[id]?=some (.box cs)) {v:TV G} (hv:cs[o]?=some v):loadAt (s.Hv g) 1 false (.pown id 1 0 o)=some (v.av g s.ln):=by
 simp only [loadAt,getLive_box hid,List.length_singleton,if_true,List.getElem?_cons_zero]
 exact partV_ok (n:=1) (ag:=false) (cs:=cs) (o:=o) hv
theorem promfV_ok {g:Ge G} (hg:g.Ok) {s s':DS G} {b t off sz:Nat} (h:promfV s t off sz=some s'):ghost1T b (s.st g) (.promf t off sz)=some (s'.st g)∧s'.FR g=s.FR g:=by
 have hget:(s.st g).tmps.get t=(s.get t).av g s.ln:=DS.get_av g s t
 unfold promfV at h
 split at h
 ·rename_i id o hv
  have hget:(s.st g).tmps.get t= .pown id 1 0 o:=by rw [hget,hv];rfl
  split at h
  case h_2=>cases h
  rename_i cs hid
  have rest:∀ {v:TV G},cs[o+off]?=some v→v.av g s.ln≠ .nils→ghost1T b (s.st g) (.promf t off sz)=some (s.st g):=by
   intro v h1 h2
   have hl:loadAt (s.st g).H 1 false (.pown id 1 0 (o+off))=some (v.av g s.ln):=load_box hid h1
   rw [ghost1T,hget]
   dsimp only
   rw [hl]
   split
   ·rename_i e;injection e with e;exact (h2 e).elim
   ·rfl
  split at h
  ·rename_i v hcs
   split at h
   ·split at h
    case isFalse=>cases h
    rename_i hf
    injection h with h;subst h
    obtain ⟨k1,k2,k3⟩:=newO_ok (g:=g) hf
    have hle:=fits_le hf
    have hln:=newO_self hle (TO.raws .nil sz ([]:List (List (TV G))))
    have hid1:id < s.H.length:=(List.getElem?_eq_some_iff.1 hid).1
    have hid':(s.newO s.H.length (.raws .nil sz [])).H[id]?=some (.box cs):=by
     unfold DS.newO
     dsimp only
     rw [if_neg (Nat.lt_irrefl _),List.getElem?_append_left hid1,hid]
    have hH':(s.newO s.H.length (.raws .nil sz [])).Hv g=s.Hv g++[.live .nil sz []]:=by
     rw [k3];unfold putObj;rw [Hv_len,if_neg (Nat.lt_irrefl _)];rfl
    obtain ⟨e1,e2,e3,e4⟩:=setN_ok (g:=g) (o':= .box (cs.set (o+off) (.own s.H.length))) hid' rfl
    refine ⟨?_,by rw [e3,k2]⟩
    have hl:loadAt (s.st g).H 1 false (.pown id 1 0 (o+off))=some .nils:=load_box hid hcs
    have ho:o+off < cs.length:=(List.getElem?_eq_some_iff.1 hcs).1
    have hst:storeAt ((s.st g).H++[.live .nil sz []]) 1 (.pown id 1 0 (o+off)) (.own (s.st g).H.length 0 0 0)=some (((s.newO s.H.length (.raws .nil sz [])).setN id (.box (cs.set (o+off) (.own s.H.length)))).Hv g):=by
     show storeAt (s.Hv g++[.live .nil sz []]) 1 _ (.own (s.Hv g).length 0 0 0)=_
     rw [←hH',e4]
     have hg2:=Hv_get (g:=g) hid'
     simp only [storeAt,getLive,hg2,TO.av,List.length_singleton,nlAt,AV.cells]
     rw [if_pos ⟨trivial,trivial,by omega,rfl,rfl⟩]
     simp only [List.getElem?_cons_zero,List.set_cons_zero,putAt,List.length_set]
     have:TV.avs g (s.newO s.H.length (.raws .nil sz [])).ln (cs.set (o+off) (.own s.H.length))=(TV.avs g (s.newO s.H.length (.raws .nil sz [])).ln cs).set (o+off) (.own (s.Hv g).length 0 0 0):=by
      rw [avs_map,avs_map,List.map_set,Hv_len]
      show _=List.set _ _ _
      congr 1
      show AV.own s.H.length (DS.ln _ s.H.length) 0 (DS.ln _ s.H.length)=_
      rw [hln];rfl
     rw [this]
    rw [ghost1T,hget]
    dsimp only
    rw [hl]
    dsimp only
    rw [hst]
    show some (⟨s.tm g,_⟩:ST)=some ⟨DS.tm g _,DS.Hv g _⟩
    rw [e2,k1]
   ·rename_i hne
    injection h with h;subst h
    exact ⟨rest hcs hne,rfl⟩
  ·rename_i v hne hcs
   split at h
   case isFalse=>cases h
   rename_i hn
   injection h with h;subst h
   exact ⟨rest hcs (notNil_ok hn),rfl⟩
  ·cases h
 ·split at h
  case isFalse=>cases h
  rename_i hn
  injection h with h;subst h
  refine ⟨?_,rfl⟩
  rw [ghost1T,hget]
  split
  ·rename_i e;exact (notPtr_ok hn _ _ _ _ e).elim
  ·rfl
theorem store_one {H:List Obj} {id n o:Nat} {cs:List AV} {v:AV} (hH:H[id]?=some (.live .norm n [cs])) (ho:o+1≤n) (hv:v.cells=[v]) (h1:v.one=true):storeAt H 1 (.pown id 1 0 o) v=some (H.set id (.live .norm n [cs.set o v])):=by
 have ha:allOne [v]=true:=by simp [allOne,h1]
 simp only [storeAt,getLive,hH,nlAt,hv,List.length_singleton]
 rw [if_pos ⟨trivial,trivial,ho,ha,rfl⟩]
 simp [putAt]
theorem frzbV_ok {g:Ge G} (hg:g.Ok) {s s':DS G} {b t off:Nat} (h:frzbV s t off=some s'):ghost1T b (s.st g) (.frzb t off)=some (s'.st g)∧s'.FR g=s.FR g:=by
 have hget:(s.st g).tmps.get t=(s.get t).av g s.ln:=DS.get_av g s t
 unfold frzbV at h
 split at h
 ·rename_i id o hv
  have hget:(s.st g).tmps.get t= .pown id 1 0 o:=by rw [hget,hv];rfl
  split at h
  case h_2=>cases h
  rename_i cs hid
  split at h
  ·rename_i j hcs
   split at h
   ·cases h
   rename_i hj
   have hj:j≠id:=by rintro rfl;simp at hj
   have frz:∀ {ob:TO G} {fl:Fl} {sz:Nat} {es:List (List AV)},s.H[j]?=some ob→ob.av g s.ln (s.FR g)= .live fl sz es→ob.len=es.length→AV.belss 0 es=true→
    loadAt (s.st g).H 1 false (.pown id 1 0 (o+off))=some (.own j es.length 0 es.length)∧frz1 0 ⟨[.own j es.length 0 es.length],(s.st g).H⟩=if fl.free=true then some ⟨[.ro es],(s.Hv g).set j .dead⟩ else none:=by
    intro ob fl sz es hidj h1 h2 h3
    have e:s.ln j=es.length:=by unfold DS.ln lnH;rw [hidj];exact h2
    have hH:(s.Hv g)[j]?=some (.live fl sz es):=by rw [Hv_get hidj,h1]
    have hn:nlAt (s.Hv g) j=fl:=by unfold nlAt;rw [hH]
    refine ⟨?_,?_⟩
    ·have:=load_box (g:=g) hid hcs
     rw [show (TV.own j:TV G).av g s.ln= .own j (s.ln j) 0 (s.ln j) from rfl,e] at this
     exact this
    ·unfold frz1
     show (match getLive (s.Hv g) j with | some (_,es)=>_ | none=>none)=_
     simp only [getLive,hH,List.drop_zero]
     rw [List.take_of_length_le (Nat.le_refl _),show nlAt (s.st g).H j=fl from hn]
     by_cases hf:fl.free=true
     ·rw [if_pos ⟨trivial,h3,hf⟩,if_pos hf];rfl
     ·rw [if_neg (fun h=>hf h.2.2),if_neg hf]
   have go:∀ {ob:TO G} {fl:Fl} {sz:Nat} {es:List (List AV)} {v:TV G},s.H[j]?=some ob→ob.av g s.ln (s.FR g)= .live fl sz es→ob.len=es.length→AV.belss 0 es=true→fl.free=true→v.av g (s.setO j .dead).ln= .ro es→
    frzbW s id j (o+off) cs.length v=some s'→ghost1T b (s.st g) (.frzb t off)=some (s'.st g)∧s'.FR g=s.FR g:=by
    intro ob fl sz es v hidj h1 h2 h3 hf hv h
    obtain ⟨hl,hfz⟩:=frz hidj h1 h2 h3
    unfold frzbW at h
    split at h
    case h_2=>cases h
    rename_i cs' hid'
    split at h
    case isFalse=>cases h
    rename_i hlen
    have hlen:=Nat.eq_of_beq_eq_true hlen
    injection h with h;subst h
    obtain ⟨k1,k2,k3,k4⟩:=setO_ok (g:=g) (o':= .dead) hidj
    obtain ⟨e1,e2,e3,e4⟩:=setN_ok (g:=g) (o':= .box (cs'.set (o+off) v)) hid' rfl
    refine ⟨?_,by rw [e3,k3]⟩
    have hg2:=Hv_get (g:=g) hid'
    rw [k4] at hg2
    have ho:o+off < cs.length:=(List.getElem?_eq_some_iff.1 hcs).1
    have hst:storeAt ((s.Hv g).set j .dead) 1 (.pown id 1 0 (o+off)) (.ro es)=some (((s.setO j .dead).setN id (.box (cs'.set (o+off) v))).Hv g):=by
     rw [e4,k4]
     rw [store_one (show ((s.Hv g).set j .dead)[id]?=some (.live .norm cs'.length [TV.avs g (s.setO j .dead).ln cs']) from hg2) (by omega) rfl rfl]
     simp only [TO.av,List.length_set]
     have:TV.avs g (s.setO j .dead).ln (cs'.set (o+off) v)=(TV.avs g (s.setO j .dead).ln cs').set (o+off) (.ro es):=by
      rw [avs_map,avs_map,List.map_set,hv]
     rw [this]
    rw [ghost1T,hget]
    dsimp only
    rw [hl]
    dsimp only
    rw [if_neg hj,hfz,if_pos hf]
    dsimp only
    rw [hst]
    show some (⟨s.tm g,_⟩:ST)=some ⟨DS.tm g _,DS.Hv g _⟩
    rw [e2,k2]
   split at h
   ·rename_i fl u l hidj
    split at h
    ·rename_i hf
     exact go hidj rfl (by simp [TO.len]) (belss_map (encOk hg u).bel l) hf rfl h
    ·rename_i hf
     injection h with h;subst h
     obtain ⟨hl,hfz⟩:=frz hidj rfl (by simp [TO.len]) (belss_map (encOk hg u).bel l)
     refine ⟨?_,rfl⟩
     rw [ghost1T,hget]
     dsimp only
     rw [hl]
     dsimp only
     rw [if_neg hj,hfz,if_neg hf]
   ·rename_i fl sz es hidj
    split at h
    case isFalse=>cases h
    rename_i hf
    simp only [Bool.and_eq_true] at hf
    refine go hidj rfl (by simp [TO.len,avss_map]) (freess_bel hg s.ln es hf.2.1) hf.1 ?_ h
    show AV.ro _=AV.ro _
    rw [indepss_av es hf.2.2]
   ·cases h
  ·rename_i v hne hcs
   split at h
   case isFalse=>cases h
   rename_i hn
   injection h with h;subst h
   refine ⟨?_,rfl⟩
   have hl:loadAt (s.st g).H 1 false (.pown id 1 0 (o+off))=some (v.av g s.ln):=load_box hid hcs
   rw [ghost1T,hget]
   dsimp only
   rw [hl]
   split
   ·rename_i e;injection e with e;exact (notOwn_ok hn _ _ _ _ e).elim
   ·rfl
  ·cases h
 ·split at h
  case isFalse=>cases h
  rename_i hn
  injection h with h;subst h
  refine ⟨?_,rfl⟩
  rw [ghost1T,hget]
  split
  ·rename_i e;exact (notPtr_ok hn _ _ _ _ e).elim
  ·rfl
theorem truncV_ok {g:Ge G} (hg:g.Ok) {s s':DS G} {b n:Nat} (h:truncV s (b+n)=some s'):ghost1T b (s.st g) (.trunc n)=some (s'.st g)∧s'.FR g=s.FR g:=by
 have hlen:(s.st g).H.length=s.H.length:=Hv_len g s
 unfold truncV at h
 split at h
 ·rename_i hb
  have keep:(T.bels (b+n) (s.st g).tmps&&objsBel (b+n) ((s.st g).H.take (b+n)))=false→ghost1T b (s.st g) (.trunc n)=some (s.st g):=by
   intro hx
   rw [ghost1T,hx,Bool.and_false];rfl
  split at h
  ·rename_i hsl
   have h1:T.bels (b+n) (s.st g).tmps=true:=belSl_ok hg hsl
   split at h
   ·rename_i hO
    have h2:objsBel (b+n) ((s.st g).H.take (b+n))=true:=by
     show objsBel (b+n) ((s.H.map _).take (b+n))=true
     rw [←List.map_take];exact belO_ok hg (belF_ok hg) hO
    split at h
    case isFalse=>cases h
    rename_i hF
    injection h with h;subst h
    have hl:∀ j,j < b+n→(s.cutH (b+n)).ln j=s.ln j:=by
     intro j hj
     unfold DS.ln lnH DS.cutH
     dsimp only
     rw [List.getElem?_take,if_pos hj]
    have hFR:(s.cutH (b+n)).FR g=s.FR g:=belF_keep hl hF
    refine ⟨?_,hFR⟩
    rw [ghost1T,hlen,hb,h1,h2]
    show some (⟨s.tm g,(s.Hv g).take (b+n)⟩:ST)=some ⟨(s.cutH (b+n)).tm g,(s.cutH (b+n)).Hv g⟩
    have e1:(s.cutH (b+n)).tm g=s.tm g:=by
     show (⟨s.sz,_⟩:T)=⟨s.sz,_⟩
     rw [show (s.cutH (b+n)).sl=s.sl from rfl,belSl_keep hl hsl]
    have e2:(s.cutH (b+n)).Hv g=(s.Hv g).take (b+n):=by
     unfold DS.Hv
     rw [hFR]
     show (s.H.take (b+n)).map _=_
     rw [belO_keep hl hO,List.map_take]
    rw [e1,e2]
   ·rename_i hO
    injection h with h;subst h
    refine ⟨?_,rfl⟩
    have h2:objsBel (b+n) ((s.st g).H.take (b+n))=false:=by
     show objsBel (b+n) ((s.H.map _).take (b+n))=false
     rw [←List.map_take];exact belO_ok hg (belF_ok hg) hO
    exact keep (by rw [h2,Bool.and_false])
   ·cases h
  ·rename_i hsl
   injection h with h;subst h
   have h1:T.bels (b+n) (s.st g).tmps=false:=belSl_ok hg hsl
   exact ⟨keep (by rw [h1,Bool.false_and]),rfl⟩
  ·cases h
 ·rename_i hb
  injection h with h;subst h
  refine ⟨?_,rfl⟩
  have hb':Nat.blt (b+n) s.H.length=false:=Bool.eq_false_iff.2 hb
  rw [ghost1T,hlen,hb',Bool.false_and];rfl
theorem gh1V_ok {g:Ge G} (hg:g.Ok) (hw:g.Wk) {s s':DS G} {b:Nat} {a:GA} (h:gh1V g b s a=some s'):ghost1T b (s.st g) a=some (s'.st g)∧s'.FR g=s.FR g:=by
 have hget:∀ t,(s.st g).tmps.get t=(s.get t).av g s.ln:=fun t=>DS.get_av g s t
 cases a with
 | kill l=>
  injection h with h;subst h
  obtain ⟨e1,e2⟩:=kill_ok (g:=g) (l:=l) (s:=s)
  exact ⟨by rw [ghost1T,e1];rfl,e2⟩
 | wk l=>
  obtain ⟨e1,e2⟩:=wksV_ok hg hw h
  exact ⟨by rw [ghost1T,e1],e2⟩
 | trunc n=>exact truncV_ok hg h
 | frz t=>rw [ghost_frz];exact frzV_ok hg h
 | frzp t=>exact frzpV_ok hg h
 | frzb t off=>exact frzbV_ok hg h
 | prom t sz=>exact promV_ok hg h
 | promf t off sz=>exact promfV_ok hg h
 | sh t=>
  unfold gh1V at h
  dsimp only at h
  split at h
  case isFalse=>cases h
  rename_i hn
  injection h with h;subst h
  refine ⟨?_,rfl⟩
  rw [ghost1T,hget]
  split
  ·rename_i e;exact (notOwn_ok hn _ _ _ _ e).elim
  ·rfl
 | res t=>
  unfold gh1V at h
  dsimp only at h
  split at h
  case isFalse=>cases h
  rename_i hn
  injection h with h;subst h
  refine ⟨?_,rfl⟩
  rw [ghost1T,hget]
  split
  ·rename_i e;exact (notOwn_ok hn _ _ _ _ e).elim
  ·rfl
 | cut t=>cases h
theorem ghV_ok {g:Ge G} (hg:g.Ok) (hw:g.Wk) {b:Nat}:∀ {l:List GA} {s s':DS G},ghV g b l s=some s'→ghostsT b l (s.st g)=some (s'.st g)∧s'.FR g=s.FR g
 | [],s,s',h=>by injection h with h;subst h;exact ⟨rfl,rfl⟩
 | a::r,s,s',h=>by
  rw [ghV] at h
  split at h
  case h_2=>cases h
  rename_i s1 h1
  obtain ⟨e1,e2⟩:=gh1V_ok hg hw h1
  obtain ⟨e3,e4⟩:=ghV_ok hg hw h
  exact ⟨by rw [ghostsT,e1];exact e3,by rw [e4,e2]⟩
end
end Dnm
