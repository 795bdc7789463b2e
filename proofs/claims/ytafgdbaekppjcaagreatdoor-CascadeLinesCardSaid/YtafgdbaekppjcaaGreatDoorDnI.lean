/- Typed states: calls, and lists of operations. No condition. -/
import Derived.Test.YtafgdbaekppjcaaGreatDoorDnH
set_option linter.unusedSectionVars false
set_option linter.unusedVariables false
set_option linter.unusedSimpArgs false
namespace Dnm
open Go hiding Obj mark
open Go.Pl Go.Am Go.Am.As
set_option linter.unusedVariables false
inductive An where
 | n
 | j (e:Bool) (p:Tm) (a:An)
 | l (e:Bool) (i:Nat) (p b:Tm) (a:An)
 | s (l:List An)
 | o (l:List (Nat×An))
 | u (l:List An)
 deriving Inhabited
def An.sub (a:An) (i:Nat):An:=match a with
 | .s q=>q.getD i .n
 | _=> .n
def findN:Nat→List (Nat×An)→An
 | _,[]=> .n
 | i,p::r=>if Nat.beq p.1 i then p.2 else findN i r
def An.op (a:An) (i:Nat):An:=match a with
 | .o q=>findN i q
 | _=> .n
structure Kn (G:Nat→Type) (R:Type) where
 n:DS G→Option R
 x:Nat→DS G→Option R
 r:DS G→Option R
def Kn.at {G:Nat→Type} {R:Type} (K:Kn G R):Ex→DS G→Option R
 | .normal,s=>K.n s
 | .exit i,s=>K.x i s
 | .ret,s=>K.r s
structure Con (G:Nat→Type) where
 f:Nat
 args:List Sh
 ts:List Ty
 rs:List Ty
 m:DL G ts→Option (DL G rs)
abbrev Rec (G:Nat→Type):={R:Type}→RC→An→Nat→DS G→Kn G R→Option R
section
variable {G:Nat→Type} {R:Type}
def collA (g:Ge G):List Sh→List (TV G)→Option (List (TV G))
 | [],vs=>(match vs with | []=>some [] | _::_=>none)
 | s::ss,vs=>(match vs with
  | v::vs=>(match Sh.coll g s v with
   | some a=>(match collA g ss vs with | some b=>some (a++b) | none=>none)
   | none=>none)
  | []=>none)
def rebA (g:Ge G):List Sh→List (TV G)→List (TV G)
 | [],_=>[]
 | s::ss,l=>(Sh.reb g s l).1::rebA g ss (Sh.reb g s l).2
theorem collA_ok {g:Ge G} {ln:Nat→Nat}:∀ {ss:List Sh} {vs l:List (TV G)},collA g ss vs=some l→∀ {l':List (TV G)},TV.avs g ln l'=TV.avs g ln l→TV.avs g ln (rebA g ss l')=TV.avs g ln vs
 | [],[],l,h,l',e=>rfl
 | [],_::_,l,h,l',e=>by cases h
 | _::_,[],l,h,l',e=>by cases h
 | s::ss,v::vs,l,h,l',e=>by
  have h':(match Sh.coll g s v with
   | some a=>(match collA g ss vs with | some b=>some (a++b) | none=>none)
   | none=>none)=some l:=h
  split at h'
  case h_2=>cases h'
  rename_i a ha
  split at h'
  case h_2=>cases h'
  rename_i b hb
  injection h' with h';subst h'
  obtain ⟨p,q,e0,e1,e2⟩:=avs_split e
  subst e0
  obtain ⟨v',k1,k2⟩:=coll_ok s v a ha p q e1
  show _::TV.avs g ln (rebA g ss (Sh.reb g s (p++q)).2)=_
  rw [k1]
  dsimp only
  rw [collA_ok hb e2,k2];rfl
def Con.vs (g:Ge G) (c:Con G) (x:DL G c.ts):List (TV G):=rebA g c.args (viewDL g c.ts x)
def Con.Ok (E:Env) (hp:Nat→Bool) (g:Ge G) (c:Con G):Prop:=∀ x r,c.m x=some r→Pt E hp c.f (TV.avs g (fun _=>0) (c.vs g x)) (oneOf (vaDL g c.rs r))
def conFind (g:Ge G) (f:Nat) (ys:List (TV G)):List (Con G)→Option ((c:Con G)×DL G c.ts)
 | []=>none
 | c::r=>if Nat.beq c.f f then (match collA g c.args ys with
  | some l=>(match mkDL g c.ts l with
   | some x=>some ⟨c,x⟩
   | none=>conFind g f ys r)
  | none=>conFind g f ys r) else conFind g f ys r
theorem conFind_ok {g:Ge G} (hg:g.Ok) {f:Nat} {ys:List (TV G)} {ln:Nat→Nat}:∀ {C:List (Con G)} {p:(c:Con G)×DL G c.ts},conFind g f ys C=some p→p.1∈C∧p.1.f=f∧TV.avs g ln (p.1.vs g p.2)=TV.avs g ln ys
 | [],p,h=>by cases h
 | c::r,p,h=>by
  have tl:conFind g f ys r=some p→p.1∈c::r∧p.1.f=f∧TV.avs g ln (p.1.vs g p.2)=TV.avs g ln ys:=fun h=>by
   obtain ⟨h1,h2⟩:=conFind_ok hg h
   exact ⟨List.mem_cons_of_mem _ h1,h2⟩
  rw [conFind] at h
  split at h
  case isFalse=>exact tl h
  rename_i hf
  split at h
  case h_2=>exact tl h
  rename_i l hl
  split at h
  case h_2=>exact tl h
  rename_i x hx
  injection h with h;subst h
  refine ⟨List.mem_cons_self ..,Nat.eq_of_beq_eq_true hf,?_⟩
  exact collA_ok hl (by rw [viewDL_av hg,mkDL_ok hg ln _ _ _ hx])
def flatT:Ty→Bool
 | .int _ | .bool | .str=>true
 | _=>false
def flatTs:List Ty→Bool
 | []=>true
 | t::r=>flatT t&&flatTs r
theorem flatTs_ok {g:Ge G}:∀ {ts:List Ty} (x:DL G ts),flatTs ts=true→AV.flats (vaDL g ts x)=true
 | [],_,_=>rfl
 | [t],x,h=>by
  rw [flatTs,Bool.and_eq_true] at h
  show ((va g t x).flat&&true)=true
  cases t<;>first | rfl | cases h.1
 | t::u::r,x,h=>by
  rw [flatTs,Bool.and_eq_true] at h
  have ih:=flatTs_ok (g:=g) (ts:=u::r) x.2 h.2
  show ((va g t x.1).flat&&AV.flats (vaDL g (u::r) x.2))=true
  rw [ih,Bool.and_true]
  cases t<;>first | rfl | cases h.1
def oneT:List (TV G)→TV G
 | [v]=>v
 | l=> .tup l
theorem oneT_av {g:Ge G} {ln:Nat→Nat} (l:List (TV G)):(oneT l).av g ln=oneOf (TV.avs g ln l):=by
 match l with
 | []=>rfl
 | [v]=>rfl
 | _::_::_=>rfl
theorem oneOf_flat {l:List AV} (h:AV.flats l=true):(oneOf l).flat=true:=by
 match l,h with
 | [],_=>rfl
 | [v],h=>simpa [AV.flats,oneOf] using h
 | a::b::l,h=>exact h
def ptrV:TV G→Bool
 | .po .. | .pe .. | .pa ..=>true
 | .raw v=>(match v with | .yld _=>true | _=>false)
 | _=>false
def anyPtr:List (TV G)→Bool
 | []=>false
 | x::xs=>ptrV x||anyPtr xs
theorem ptrV_ok {g:Ge G} {ln:Nat→Nat} {H:List Obj} {v:TV G} (h:ptrV v=true):pk 6 H (v.av g ln)=none:=by
 have key:∀ {a:AV},a.bel 0=false→(∀ id e o l,a≠ .own id e o l)→(∀ id e i o sz l,a≠ .arr id e i o sz l)→(∀ l,a≠ .agg l)→(∀ l,a≠ .tup l)→(∀ f l,a≠ .fn f l)→pk 6 H a=none:=by
  intro a h1 h2 h3 h4 h5 h6
  unfold pk
  rw [if_neg (by rw [AV.refFree,h1];simp)]
  split
  ·exact (h2 _ _ _ _ rfl).elim
  ·exact (h3 _ _ _ _ _ _ rfl).elim
  ·exact (h4 _ rfl).elim
  ·exact (h5 _ rfl).elim
  ·exact (h6 _ _ rfl).elim
  ·rfl
 unfold ptrV at h
 split at h
 ·exact key (by simp [TV.av,AV.bel]) (fun _ _ _ _=>nofun) (fun _ _ _ _ _ _=>nofun) (fun _=>nofun) (fun _=>nofun) (fun _ _=>nofun)
 ·exact key (by simp [TV.av,AV.bel]) (fun _ _ _ _=>nofun) (fun _ _ _ _ _ _=>nofun) (fun _=>nofun) (fun _=>nofun) (fun _ _=>nofun)
 ·exact key (by simp [TV.av,AV.bel]) (fun _ _ _ _=>nofun) (fun _ _ _ _ _ _=>nofun) (fun _=>nofun) (fun _=>nofun) (fun _ _=>nofun)
 ·split at h
  ·exact key (by simp [TV.av,AV.bel]) (fun _ _ _ _=>nofun) (fun _ _ _ _ _ _=>nofun) (fun _=>nofun) (fun _=>nofun) (fun _ _=>nofun)
  ·cases h
 ·cases h
theorem anyPtr_ok {g:Ge G} {ln:Nat→Nat} {H:List Obj}:∀ {xs:List (TV G)},anyPtr xs=true→snaps H (TV.avs g ln xs)=none
 | [],h=>by cases h
 | x::xs,h=>by
  rw [anyPtr,Bool.or_eq_true] at h
  show mapO (pk 6 H) (_::_)=none
  rw [mapO]
  rcases h with h | h
  ·rw [ptrV_ok h]
  ·have:=anyPtr_ok (g:=g) (ln:=ln) (H:=H) h
   unfold snaps at this
   rw [this]
   cases pk 6 H (x.av g ln)<;>rfl
theorem frees_pk {g:Ge G} (hg:g.Ok) {ln:Nat→Nat} {H:List Obj} {xs:List (TV G)} {l:List AV} (hf:TV.frees xs=true) (h:snaps H (TV.avs g ln xs)=some l):l=TV.avs g ln xs:=by
 have:=mapO_bels (d:=6) (H:=H) (frees_bel hg ln xs hf)
 unfold snaps at h
 rw [this] at h
 injection h with h;exact h.symm
def resV (g:Ge G) (s:DS G):List (Sum Nat (Nat×Nat×Bool))→Option (List (TV G))
 | []=>some []
 | .inl t::r=>(match resV g s r with | some l=>some (s.get t::l) | none=>none)
 | .inr p::r=>(match loadV g s.H p.2.1 p.2.2 (s.get p.1) some with
  | some v=>(match resV g s r with | some l=>some (v::l) | none=>none)
  | none=>none)
theorem resV_ok {g:Ge G} (hg:g.Ok) {s:DS G}:∀ {rs:List (Sum Nat (Nat×Nat×Bool))} {l:List (TV G)},resV g s rs=some l→resultsT rs (s.st g)=some (TV.avs g s.ln l)
 | [],l,h=>by injection h with h;subst h;rfl
 | .inl t::r,l,h=>by
  rw [resV] at h
  split at h
  case h_2=>cases h
  rename_i l' h1
  injection h with h;subst h
  rw [resultsT,resV_ok hg h1]
  show some (T.get _ t::_)=_
  rw [show (s.st g).tmps.get t=(s.get t).av g s.ln from DS.get_av g s t];rfl
 | .inr (t,n,ag)::r,l,h=>by
  rw [resV] at h
  split at h
  case h_2=>cases h
  rename_i v hv
  split at h
  case h_2=>cases h
  rename_i l' h1
  injection h with h;subst h
  obtain ⟨w,k1,k2⟩:=loadV_ok hg hv
  injection k2 with k2;subst k2
  rw [resultsT,resV_ok hg h1]
  rw [show (s.st g).tmps.get t=(s.get t).av g s.ln from DS.get_av g s t]
  rw [show loadAt (s.st g).H n ag _=_ from k1];rfl
def putsS:List (TV G)→Nat→List (Nat×TV G)
 | [],_=>[]
 | x::xs,i=>(i,x)::putsS xs (i+1)
theorem putsS_av (g:Ge G) (ln:Nat→Nat):∀ (l:List (TV G)) (i:Nat),avL g ln (putsS l i)=T.puts (TV.avs g ln l) i
 | [],_=>rfl
 | x::l,i=>by
  show (i,_)::avL g ln (putsS l (i+1))=(i,_)::T.puts (TV.avs g ln l) (i+1)
  rw [putsS_av g ln l]
def lpB (n:Nat):List (TO G)→Bool
 | []=>true
 | .lp _ fi::r=>Nat.blt fi n&&lpB n r
 | _::r=>lpB n r
theorem lpB_ok {g:Ge G} {ln:Nat→Nat} {F F':List (T×C3)} {n:Nat} (hF:∀ i,i < n→F'[i]?=F[i]?):∀ {H:List (TO G)},lpB n H=true→H.map (TO.av g ln F')=H.map (TO.av g ln F)
 | [],_=>rfl
 | .lp s fi::r,h=>by
  rw [lpB,Bool.and_eq_true] at h
  have h1:fi < n:=by simpa [Nat.blt_eq] using h.1
  rw [List.map_cons,List.map_cons,lpB_ok hF h.2]
  simp only [TO.av,hF fi h1]
 | .box l::r,h | .lst ..::r,h | .raws ..::r,h | .mix ..::r,h | .arr ..::r,h | .dead::r,h | .rsv::r,h=>by
  have h:lpB n r=true:=h
  rw [List.map_cons,List.map_cons,lpB_ok hF h];rfl
def DS.enter (s:DS G) (sz:Nat) (sl:List (Nat×TV G)) (c:C3):DS G:=⟨sz,sl,s.H,s.fr++[(s.sz,s.sl,c)]⟩
def DS.leave (s:DS G) (n:Nat):Option (DS G):=match s.fr[n]? with
 | some f=>if lpB n s.H then some ⟨f.1,f.2.1,s.H,s.fr.take n⟩ else none
 | none=>none
theorem FR_len (g:Ge G) (s:DS G):(s.FR g).length=s.fr.length:=by unfold DS.FR;rw [List.length_map]
theorem enter_ok {g:Ge G} (s:DS G) (sz:Nat) (sl:List (Nat×TV G)) (c:C3) (h:lpB s.fr.length s.H=true):(s.enter sz sl c).tm g=⟨sz,avL g s.ln sl⟩∧(s.enter sz sl c).FR g=s.FR g++[(s.tm g,c)]∧(s.enter sz sl c).Hv g=s.Hv g:=by
 have e:(s.enter sz sl c).FR g=s.FR g++[(s.tm g,c)]:=by
  unfold DS.FR DS.enter
  rw [List.map_append];rfl
 refine ⟨rfl,e,?_⟩
 unfold DS.Hv
 rw [e]
 refine lpB_ok (n:=s.fr.length) (fun i hi=>?_) h
 rw [List.getElem?_append_left (by rw [FR_len];exact hi)]
theorem leave_ok {g:Ge G} {s s' s2:DS G} {c:C3} (h:s'.leave s.fr.length=some s2) (hF:s'.FR g=s.FR g++[(s.tm g,c)]):s2.tm g=s.tm g∧s2.FR g=s.FR g∧s2.ln=s'.ln∧s2.Hv g=s'.Hv g:=by
 have hl:=FR_len g s
 unfold DS.leave at h
 split at h
 case h_2=>cases h
 rename_i f hf
 split at h
 case isFalse=>cases h
 rename_i hb
 injection h with h;subst h
 have h1:(s'.FR g)[s.fr.length]?=(s.FR g++[(s.tm g,c)])[s.fr.length]?:=by rw [hF]
 unfold DS.FR at h1
 rw [List.getElem?_map,hf] at h1
 rw [List.getElem?_append_right (by rw [List.length_map];exact Nat.le_refl _),List.length_map,Nat.sub_self] at h1
 injection h1 with h1
 injection h1 with h1 _
 have h2:(⟨f.1,f.2.1,s'.H,s'.fr.take s.fr.length⟩:DS G).FR g=s.FR g:=by
  have h3:=congrArg (List.take s.fr.length) hF
  rw [List.take_left' hl] at h3
  rw [←h3]
  unfold DS.FR
  rw [←List.map_take];rfl
 refine ⟨h1,h2,rfl,?_⟩
 show s'.H.map (TO.av g s'.ln (DS.FR g _))=s'.H.map (TO.av g s'.ln (s'.FR g))
 rw [h2,hF]
 refine lpB_ok (n:=s.fr.length) (fun i hi=>?_) hb
 rw [List.getElem?_append_left (by rw [hl];exact hi)]
def repS:List (Nat×TV G)→Nat→TV G→List (Nat×TV G)
 | [],_,_=>[]
 | (k,u)::r,n,v=>if k=n then (k,v)::r else (k,u)::repS r n v
theorem repS_av {g:Ge G} {ln:Nat→Nat}:∀ {l:List (Nat×TV G)} {n:Nat} {v:TV G},(getS l n).av g ln=v.av g ln→avL g ln (repS l n v)=avL g ln l
 | [],_,_,_=>rfl
 | (k,u)::r,n,v,h=>by
  rw [getS] at h
  rw [repS]
  split
  ·rename_i hk
   rw [if_pos hk] at h
   show (k,_)::_=(k,_)::_
   rw [h]
  ·rename_i hk
   rw [if_neg hk] at h
   show (k,_)::avL g ln (repS r n v)=(k,_)::avL g ln r
   rw [repS_av h]
def DS.rep (s:DS G) (n:Nat) (v:TV G):DS G:=⟨s.sz,repS s.sl n v,s.H,s.fr⟩
theorem rep_ok {g:Ge G} {s:DS G} {n:Nat} {v:TV G} (h:(s.get n).av g s.ln=v.av g s.ln):(s.rep n v).tm g=s.tm g∧(s.rep n v).Hv g=s.Hv g∧(s.rep n v).FR g=s.FR g:=by
 refine ⟨?_,rfl,rfl⟩
 show (⟨s.sz,_⟩:T)=⟨s.sz,_⟩
 rw [show avL g (s.rep n v).ln (s.rep n v).sl=avL g s.ln (repS s.sl n v) from rfl,repS_av h]
def lpSetV (x y:Ls) (s:DS G) (l:Nat):Option (DS G):=match s.H[l]? with
 | some (.lp s' fi)=>if s'=x∧fi < s.fr.length then some (s.setN l (.lp y fi)) else none
 | _=>none
theorem lpSetV_ok {g:Ge G} {s s':DS G} {x y:Ls} {l:Nat} (h:lpSetV x y s l=some s'):lpSet x y (s.Hv g) l=some (s'.Hv g)∧s'.tm g=s.tm g∧s'.FR g=s.FR g:=by
 unfold lpSetV at h
 split at h
 case h_2=>cases h
 rename_i s0 fi hl
 split at h
 case isFalse=>cases h
 rename_i e;obtain ⟨rfl,e⟩:=e
 injection h with h;subst h
 have hf:(s.FR g)[fi]?=some ((s.FR g)[fi]'(by unfold DS.FR;simpa using e)):=List.getElem?_eq_getElem _
 obtain ⟨k1,k2,k3,k4⟩:=setN_ok (g:=g) (o':= .lp y fi) hl rfl
 refine ⟨?_,k2,k3⟩
 unfold lpSet
 rw [Hv_get hl]
 simp only [TO.av,hf,if_true]
 rw [k4]
 simp only [TO.av,hf]
end
end Dnm
