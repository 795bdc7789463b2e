/- Typed states: operations that read memory and operations that change it. No condition. -/
import Derived.Test.YtafgdbaekppjcaaGreatDoorDnB
set_option linter.unusedSectionVars false
set_option linter.unusedVariables false
set_option linter.unusedSimpArgs false
namespace oe
open Go hiding Obj mark
open Go.Pl Go.Am Go.Am.As
section
variable {G:Nat->Type} {R:Type}
theorem oi {α:Type} {l:List α} {i:Int} {v:α} (h:idx l i=some v):0<=i/\i.toNat < l.length/\l[i.toNat]?=some v:=by
 unfold idx at h;split at h
 case isFalse=>cases h
 obtain ⟨h1,_⟩:=zab.1 h;exact ⟨by assumption,h1,h⟩
theorem rL {g:Ge G} (hg:g.Ok) (t:Ty) (l:List (t.D G)):(List.map (enc g t) l).flatten.length=l.length*t.n g:=by
 induction l with
 | nil=>simp
 | cons x l ih=>simp only [za5,zb,za8,ih,(cT hg t).len,zaK,Nat.succ_mul];omega
def CX (g:Ge G) (H:List (TO G)) (n:Nat) (ag:Bool) (x:TV G) (c:TV G->Option R):Option R:=match x with
 | .bR cs=>(match ny n ag cs 0 with | some v=>c v | none=>none)
 | .po id o=>(match H[id]? with
  | some (.box cs)=>(match ny n ag cs o with | some v=>c v | none=>none)
  | some (.arr m t a)=>if ag&&(Nat.beq o 0&&Nat.beq n (m*t.n g)) then c (.arr m t a) else
   if Nat.beq (t.n g) 1&&Nat.beq n 1 then (oU a (o:Int)).bind fun v=>(match ny n ag ((view g t v).cells g) 0 with | some v=>c v | none=>none) else none
  | _=>none)
 | .pe id i o=>(match H[id]? with
  | some (.aQ fl t l)=>(idx l i).bind fun v=>(match ny n ag ((view g t v).cells g) o with | some v=>c v | none=>none)
  | some (.cQ fl sz es)=>(idx es i).bind fun cs=>(match ny n ag cs o with | some v=>c v | none=>none)
  | _=>none)
 | .pa id sz i o=>(match H[id]? with
  | some (.arr m t a)=>if Nat.beq (t.n g) sz&&(Nat.ble (o+n) sz&&(ag||Nat.beq n 1)) then (oU a i).bind fun v=>(match ny n ag ((view g t v).cells g) o with | some v=>c v | none=>none) else none
  | _=>none)
 | _=>none
theorem wT {g:Ge G} (hg:g.Ok) {s:DS G} {n:Nat} {ag:Bool} {x:TV G} {c:TV G->Option R} {r:R} (h:CX g s.H n ag x c=some r):∃ w:TV G,loadAt (s.Hv g) n ag (x.av g s.ln)=some (w.av g s.ln)/\c w=some r:=by
 unfold CX at h;split at h
 ·split at h
  case h_2=>cases h
  rename_i v hv;exact ⟨v,fK hv,h⟩
 ·rename_i id o;split at h
  ·rename_i cs hid;split at h
   case h_2=>cases h
   rename_i v hv;refine ⟨v,?_,h⟩;simp only [TV.av,loadAt,aC,bl hid,TO.av,zaA,if_true,zaq];exact fK hv
  ·rename_i m t a hid;have hl:(List.map (enc g t) a.1).flatten.length=m*t.n g:=by rw [rL hg,a.2]
   split at h
   ·rename_i hc;simp only [za0] at hc;have e1:=za3 hc.2.1;have e2:=za3 hc.2.2;subst e1;subst e2;rw [hc.1];refine ⟨_,?_,h⟩;simp only [TV.av,loadAt,aC,bl hid,TO.av,zaA,if_true,zaq,Am.part,hl,zaD,za7,zaW];rw [zah (by rw [hl];exact za7 _)]
   ·split at h
    case isFalse=>cases h
    rename_i hc;simp only [za0] at hc;have e1:=za3 hc.1;have e2:=za3 hc.2;obtain ⟨v,h1,h2⟩:=bind_some h;obtain ⟨h3,h4,h5⟩:=oj h1;split at h2
    case h_2=>cases h2
    rename_i w hw;refine ⟨w,?_,h2⟩;have h6:=fK (g:=g) (ln:=s.ln) hw;rw [gJ hg] at h6;have h7:=BF (o:=0) (cT hg t).len h5 (by rw [e1,e2];exact za7 _) (fun _=>e2) h6;simp only [TV.av,loadAt,aC,bl hid,TO.av,zaA,if_true,zaq];rw [e1] at h7;simpa using h7
  ·cases h
 ·rename_i id i o;split at h
  case h_3=>cases h
  ·rename_i fl t l hid;obtain ⟨v,h1,h2⟩:=bind_some h;obtain ⟨h3,h4,h5⟩:=oi h1;split at h2
   case h_2=>cases h2
   rename_i w hw;refine ⟨w,?_,h2⟩;have h6:=fK (g:=g) (ln:=s.ln) hw;rw [gJ hg] at h6;have e:s.ln id=l.length:=by unfold DS.ln ju;rw [hid];rfl
   simp only [TV.av,loadAt,aC,bl hid,TO.av,zaa,e,if_true,zav,h5,zaN];exact h6
  ·rename_i fl sz es hid;obtain ⟨cs,h1,h2⟩:=bind_some h;obtain ⟨h3,h4,h5⟩:=oi h1;split at h2
   case h_2=>cases h2
   rename_i w hw;refine ⟨w,?_,h2⟩;have h6:=fK (g:=g) (ln:=s.ln) hw;have e:s.ln id=es.length:=by unfold DS.ln ju;rw [hid];rfl
   simp only [TV.av,loadAt,aC,bl hid,TO.av,bu,zaa,e,if_true,zav,h5,zaN];exact h6
 ·rename_i id sz i o;split at h
  case h_2=>cases h
  rename_i m t a hid;split at h
  case isFalse=>cases h
  rename_i hc;simp only [za0] at hc;have e1:=za3 hc.1;have e2:=zaB hc.2.1;subst e1;obtain ⟨v,h1,h2⟩:=bind_some h;obtain ⟨h3,h4,h5⟩:=oj h1;split at h2
  case h_2=>cases h2
  rename_i w hw;refine ⟨w,?_,h2⟩;have h6:=fK (g:=g) (ln:=s.ln) hw;rw [gJ hg] at h6;have h7:=BF (cT hg t).len h5 e2 (fun e=>by
   have:=hc.2.2;rw [e] at this;exact za3 (by simpa using this)) h6
  simp only [TV.av,loadAt,aC,bl hid,TO.av,zaA,if_true,zaq];exact h7
 ·cases h
def HE (g:Ge G) (H:List (TO G)) (sz:Nat) (x i:TV G) (c:TV G->Option R):Option R:=match i with
 | .int _ n=>(match x with
  | .aQ t l=>if Nat.beq (t.n g) sz then (idx l n).bind fun v=>c (.bR ((view g t v).cells g)) else none
  | .own id=>(match H[id]? with
   | some (.aQ fl t l)=>if Nat.beq (t.n g) sz then (idx l n).bind fun _=>c (.pe id n 0) else none
   | some (.cQ fl sz' es)=>if Nat.beq sz' sz then (idx es n).bind fun _=>c (.pe id n 0) else none
   | _=>none)
  | .o4 es=>A2 n (fun j=>match es[j]? with | some cs=>if Nat.beq cs.length sz then c (.bR cs) else none | none=>none) es.length 0
  | _=>none)
 | _=>none
theorem Dj {g:Ge G} (hg:g.Ok) {s:DS G} {sz:Nat} {x i:TV G} {c:TV G->Option R} {r:R} (h:HE g s.H sz x i c=some r):∃ w:TV G,jd (s.Hv g) sz (x.av g s.ln) (i.av g s.ln)=some (w.av g s.ln)/\c w=some r:=by
 unfold HE at h;split at h
 case h_2=>cases h
 rename_i k n;split at h
 ·rename_i t l;split at h
  case isFalse=>cases h
  rename_i hc;have e:=za3 hc;obtain ⟨v,h1,h2⟩:=bind_some h;obtain ⟨h3,h4,h5⟩:=oi h1;refine ⟨_,?_,h2⟩;simp only [TV.av,jd,if_pos h3,zav,h5,zaN,(cT hg t).len,e,if_true,gJ hg]
 ·rename_i id;split at h
  case h_3=>cases h
  ·rename_i fl t l hid;split at h
   case isFalse=>cases h
   rename_i hc;have e:=za3 hc;obtain ⟨v,h1,h2⟩:=bind_some h;obtain ⟨h3,h4,h5⟩:=oi h1;refine ⟨_,?_,h2⟩;have e2:s.ln id=l.length:=by unfold DS.ln ju;rw [hid];rfl
   simp only [TV.av,jd,aC,bl hid,TO.av,zaa,e2,e];rw [if_pos ⟨trivial,trivial,h3,by omega⟩,zaD]
  ·rename_i fl sz' es hid;split at h
   case isFalse=>cases h
   rename_i hc;have e:=za3 hc;obtain ⟨v,h1,h2⟩:=bind_some h;obtain ⟨h3,h4,h5⟩:=oi h1;refine ⟨_,?_,h2⟩;have e2:s.ln id=es.length:=by unfold DS.ln ju;rw [hid];rfl
   simp only [TV.av,jd,aC,bl hid,TO.av,bu,zaa,e2,e];rw [if_pos ⟨trivial,trivial,h3,by omega⟩,zaD]
 ·rename_i es;obtain ⟨j,_,rfl,h2⟩:=vb h;split at h2
  case h_2=>cases h2
  rename_i cs hcs;split at h2
  case isFalse=>cases h2
  rename_i hc;have e:=za3 hc;refine ⟨_,?_,h2⟩;simp only [TV.av,jd,if_pos (Int.natCast_nonneg j),zaw,bu,zav,hcs,zaN,dy,e,if_true]
 ·cases h
def UX (g:Ge G) (sz:Nat) (x:TV G) (lo hi:Option (TV G)) (c:TV G->Option R):Option R:=match x,A3 lo,A3 hi with
 | .aQ t l,some a,some b=>if Nat.beq (t.n g) sz then (mj l a b).bind fun v=>c (.aQ t v) else none
 | _,_,_=>none
theorem Rn {g:Ge G} (hg:g.Ok) {s:DS G} {sz:Nat} {x:TV G} {lo hi:Option (TV G)} {c:TV G->Option R} {r:R} (h:UX g sz x lo hi c=some r):∃ w:TV G,slc (s.Hv g) sz (x.av g s.ln) (lo.map (TV.av g s.ln)) (hi.map (TV.av g s.ln))=some (w.av g s.ln)/\c w=some r:=by
 unfold UX at h;split at h
 case h_2=>cases h
 rename_i t l a b ha hb;split at h
 case isFalse=>cases h
 rename_i hc;have e:=za3 hc;obtain ⟨v,h1,h2⟩:=bind_some h;refine ⟨_,?_,h2⟩;obtain ⟨p,q,e1,e2,e3,e4,e5,_,_⟩:=BG h1 (om (g:=g) (ln:=s.ln) ha) (om (g:=g) (ln:=s.ln) hb);simp only [TV.av,slc,zaa,e1,e2];by_cases hpq:p=q
 ·subst hpq;rw [if_pos rfl,e5];simp
 ·rw [if_neg hpq];have hp:p < l.length:=by omega
  simp only [zav,za1 hp,zaN,(cT hg t).len,e,if_true];rw [e5,zbH,zc]
def TA (H:List (TO G)) (neg:Bool) (x:TV G) (c:TV G->Option R):Option R:=match x with
 | .raw .bF=>c (.bool (true !=neg))
 | .aQ t l=>(ia l).bind fun _=>c (.bool (false !=neg))
 | .gr t o=>(abS o).bind fun b=>c (.bool (b !=neg))
 | .own id=>(match H[id]? with
  | some (.aQ fl t l)=>c (.bool ((decide (fl= .nil)&&l.isEmpty) !=neg))
  | some (.cQ fl sz es)=>c (.bool ((decide (fl= .nil)&&es.isEmpty) !=neg))
  | _=>none)
 | .sa _ _ len _ _=>if len=0 then none else c (.bool (false !=neg))
 | _=>none
def UY (H:List (TO G)) (neg:Bool) (x y:TV G) (c:TV G->Option R):Option R:=match y with
 | .raw .bF=>TA H neg x c
 | _=>none
theorem Ro {g:Ge G} {s:DS G} {neg:Bool} {x y:TV G} {c:TV G->Option R} {r:R} (h:UY s.H neg x y c=some r):∃ w:TV G,AS (s.Hv g) neg (x.av g s.ln) (y.av g s.ln)=some (w.av g s.ln)/\c w=some r:=by
 unfold UY at h;split at h
 case h_2=>cases h
 have key:∀ {b:Bool},isNil (s.Hv g) (x.av g s.ln)=some b->AS (s.Hv g) neg (x.av g s.ln) ((TV.raw .bF:TV G).av g s.ln)=some (.bool (b !=neg)):=by
  intro b hb;show (match x.av g s.ln,AV.bF with
   | x,.bF=>(match isNil (s.Hv g) x with | some b=>some (AV.bool (b !=neg)) | none=>none)
   | .bF,y=>(match isNil (s.Hv g) y with | some b=>some (AV.bool (b !=neg)) | none=>none)
   | _,_=>none)=_
  dsimp only;rw [hb]
 unfold TA at h;split at h
 ·exact ⟨.bool _,key rfl,h⟩
 ·rename_i t l;obtain ⟨v,h1,h2⟩:=bind_some h;refine ⟨.bool _,key (b:=false) ?_,h2⟩
  cases l with
  | nil=>cases h1
  | cons x l=>rfl
 ·rename_i t o;obtain ⟨v,h1,h2⟩:=bind_some h;refine ⟨.bool _,key (b:=v) ?_,h2⟩
  cases o with
  | none=>exact h1
  | some l=>cases l with
   | nil=>cases h1
   | cons x l=>exact h1
 ·rename_i id;split at h
  ·rename_i fl t l hid;refine ⟨.bool _,key (b:=decide (fl= .nil)&&l.isEmpty) ?_,h⟩;have e2:s.ln id=l.length:=by unfold DS.ln ju;rw [hid];rfl
   simp only [TV.av,isNil,aC,bl hid,TO.av,zaa,e2,if_true,cy]
   cases l<;>simp
  ·rename_i fl sz es hid;refine ⟨.bool _,key (b:=decide (fl= .nil)&&es.isEmpty) ?_,h⟩;have e2:s.ln id=es.length:=by unfold DS.ln ju;rw [hid];rfl
   simp only [TV.av,isNil,aC,bl hid,TO.av,bu,zaa,e2,if_true,cy]
   cases es<;>simp
  ·cases h
 ·split at h
  case isTrue=>cases h
  rename_i hz;refine ⟨.bool _,key (b:=false) ?_,h⟩;simp only [TV.av,if_neg hz,isNil]
 ·cases h
def LH (g:Ge G) (H:List (TO G)) (len sz:Nat) (x:TV G) (lo hi:Option (TV G)) (c:TV G->Option R):Option R:=match x with
 | .po id o=>(match H[id]?,A3 lo,A3 hi with
  | some (.arr m t a),some p,some q=>if Nat.beq o 0&&(Nat.beq m len&&(Nat.beq (t.n g) 1&&Nat.beq sz 1)) then
   (mj a.1 p q).bind fun _=>if h:(p.getD 0).toNat+((q.getD a.1.length).toNat - (p.getD 0).toNat)<=m then c (.sa id (p.getD 0).toNat ((q.getD a.1.length).toNat - (p.getD 0).toNat) m h) else none else none
  | _,_,_=>none)
 | _=>none
theorem Ny {g:Ge G} (hg:g.Ok) {s:DS G} {len sz:Nat} {x:TV G} {lo hi:Option (TV G)} {c:TV G->Option R} {r:R} (h:LH g s.H len sz x lo hi c=some r):∃ w:TV G,k8 (s.Hv g) len sz (x.av g s.ln) (lo.map (TV.av g s.ln)) (hi.map (TV.av g s.ln))=some (w.av g s.ln)/\c w=some r:=by
 unfold LH at h;split at h
 case h_2=>cases h
 rename_i id o;split at h
 case h_2=>cases h
 rename_i m t a p q hid ha hb;split at h
 case isFalse=>cases h
 rename_i hc;simp only [za0] at hc;have e1:=za3 hc.1;have e2:=za3 hc.2.1;have e3:=za3 hc.2.2.1;have e4:=za3 hc.2.2.2;subst e1;subst e2;subst e4;obtain ⟨v,h1,h2⟩:=bind_some h;split at h2
 case isFalse=>cases h2
 refine ⟨_,?_,h2⟩;simp only [TV.av];obtain ⟨i,j,f1,f2,f3,f4,_,f6,f7⟩:=BG h1 (om (g:=g) (ln:=s.ln) ha) (om (g:=g) (ln:=s.ln) hb);rw [f6,f7];have hl:a.1.length=m:=a.2;rw [hl] at f1 f4;simp only [k8,f1,f2];by_cases hij:i=j
 ·subst hij;simp
 ·rw [if_neg hij,if_neg (by omega)];simp only [aC,bl hid,TO.av,zaA,e3,zbv,zaD];rw [if_pos ⟨trivial,by omega,za7 _⟩]
def UZ (g:Ge G) (s:DS G) (pl:Nat) (v:TV G) (c:TV G->DS G->Option R):Option R:=match v with
 | .arr n t a=>if s.fits pl (.arr n t a) then c (.po pl 0) (s.dL pl (.arr n t a)) else none
 | v=>if iE (v.cells g)&&s.fits pl (.box (v.cells g)) then c (.po pl 0) (s.dL pl (.box (v.cells g))) else none
def Qy (b:Bool):List AV->Bool
 | []=>true
 | .bool c::r=>(b==c)&&Qy b r
 | _=>false
def allI (k:IntKind) (n:Int):List AV->Bool
 | []=>true
 | .int k' m::r=>decide (k'=k)&&(decide (m=n)&&allI k n r)
 | _=>false
def rM (z:List AV):TO G:=match z with
 | .bool b::_=>if Nat.ble 4 z.length&&Qy b z then .arr z.length .bool (eB.rep z.length b) else .box (iI z)
 | .int k n::_=>if Nat.ble 4 z.length&&allI k n z then .arr z.length (.int k) (eB.rep z.length (show Int from n)) else .box (iI z)
 | _=> .box (iI z)
theorem Ia {b:Bool}:∀ {z:List AV},Qy b z=true->z=List.replicate z.length (.bool b)
 | [],_=>rfl
 | x::z,h=>by
  cases x with
  | bool c=>
   simp only [Qy,za0,beq_iff_eq] at h;rw [zaK,zbG,<-Ia h.2,h.1]
  | _=>cases h
theorem Ib {k:IntKind} {n:Int}:∀ {z:List AV},allI k n z=true->z=List.replicate z.length (.int k n)
 | [],_=>rfl
 | x::z,h=>by
  cases x with
  | int k' m=>
   simp only [allI,za0,decide_eq_true_eq] at h;rw [zaK,zbG,<-Ib h.2.2,h.1,h.2.1]
  | _=>cases h
theorem zK:∀ l:List AV,(iI l:List (TV G)).length=l.length
 | []=>rfl
 | x::l=>by rw [iI,zaK,zK l];rfl
theorem wU {α:Type} (x:α):∀ n,((List.replicate n x).map fun y=>[y]).flatten=List.replicate n x
 | 0=>rfl
 | n+1=>by rw [zbG,za5,zb,wU x n];rfl
theorem EI (g:Ge G) (ln:Nat->Nat) (F:List (T×C3)) (z:List AV):(rM z:TO G).av g ln F= .live .norm z.length [z]:=by
 have hb:(TO.box (iI z):TO G).av g ln F= .live .norm z.length [z]:=by
  show Obj.live _ _ _=_;rw [zK,gL]
 unfold rM;split
 ·rename_i b r;split
  ·rename_i hc;simp only [za0] at hc;have e:=Ia hc.2;show Obj.live .norm ((AV.bool b::r).length*1) [(List.map (fun x=>[AV.bool x]) (List.replicate (AV.bool b::r).length b)).flatten]=_;rw [zbB,zbv,<-zbB (f:=fun x=>[x]),wU,<-e]
  ·exact hb
 ·rename_i k n r;split
  ·rename_i hc;simp only [za0] at hc;have e:=Ib hc.2;show Obj.live .norm ((AV.int k n::r).length*1) [(List.map (fun x=>[AV.int k x]) (List.replicate (AV.int k n::r).length n)).flatten]=_;rw [zbB,zbv,<-zbB (f:=fun x=>[x]),wU,<-e]
  ·exact hb
 ·exact hb
def F0 (s:DS G) (pl:Nat) (z:List AV) (c:TV G->DS G->Option R):Option R:=
 if aW z&&s.fits pl (rM z) then c (.po pl 0) (s.dL pl (rM z)) else none
def Bn (g:Ge G) (sz:Nat):List (List (TV G))->List (Nat×TV G)->Option (List (List (TV G)))
 | es,[]=>some es
 | es,(i,v)::r=>if Nat.beq (v.cells g).length sz&&(Nat.blt i es.length&&iE (v.cells g)) then Bn g sz (es.set i (v.cells g)) r else none
theorem zL {g:Ge G} {ln:Nat->Nat} {sz:Nat}:∀ {r:List (Nat×TV G)} {es l:List (List (TV G))},Bn g sz es r=some l->kr sz (TV.cV g ln es) (r.map fun p=>(p.1,p.2.av g ln))=some (TV.cV g ln l)/\l.length=es.length
 | [],es,l,h=>by injection h with h;subst h;exact ⟨rfl,rfl⟩
 | (i,v)::r,es,l,h=>by
  rw [Bn] at h;split at h
  case isFalse=>cases h
  rename_i hc;simp only [za0] at hc;have h1:=za3 hc.1;have h2:i < es.length:=by simpa [zbV] using hc.2.1
  obtain ⟨h3,h4⟩:=zL (g:=g) (ln:=ln) h;refine ⟨?_,by rw [h4,zbb]⟩;rw [za5,kr,dn,if_pos ⟨by rw [dy];exact h1,by rw [bu,zaa];exact h2,fS g ln hc.2.2⟩];rw [<-h3,bu,bu,zbS]
def F1 (g:Ge G) (s:DS G) (n:Nat) (x v:TV G) (c:TV G->DS G->Option R):Option R:=match x with
 | .po id o=>(match s.H[id]? with
  | some (.box cs)=>if Nat.beq (v.cells g).length n&&(Nat.ble (o+n) cs.length&&iE (v.cells g)) then c (.raw (.aY [])) (s.gV id (.box (mA cs o (v.cells g)))) else none
  | some (.arr m t a)=>(match v with
   | .arr m' t' a'=>if h:m'=m/\t'=t then (if Nat.beq o 0&&Nat.beq n (m*t.n g) then c (.raw (.aY [])) (s.gV id (.arr m' t' a')) else none) else none
   | v=>if Nat.beq (t.n g) 1&&Nat.beq n 1 then
    (match yK g t (qI t (v.cells g)) with
     | some w=>(oU a (o:Int)).bind fun _=>c (.raw (.aY [])) (s.gV id (.arr m t (a.put o w)))
     | none=>none) else none)
  | _=>none)
 | .pe id i o=>(match s.H[id]? with
  | some (.aQ fl t l)=>if fl.free&&(Nat.beq (v.cells g).length n&&(Nat.ble (o+n) (t.n g)&&iE (v.cells g))) then
   (idx l i).bind fun u=>(match yK g t (qI t (mA ((view g t u).cells g) o (v.cells g))) with
    | some w=>c (.raw (.aY [])) (s.gV id (.aQ fl t (l.set i.toNat w)))
    | none=>none) else none
  | _=>none)
 | .pa id sz i o=>(match s.H[id]? with
  | some (.arr m t a)=>if Nat.beq (t.n g) sz&&(Nat.beq n sz&&Nat.beq o 0) then
   (match yK g t (qI t (v.cells g)) with
    | some w=>(oU a i).bind fun _=>c (.raw (.aY [])) (s.gV id (.arr m t (a.put i.toNat w)))
    | none=>none) else none
  | _=>none)
 | _=>none
def pg (g:Ge G) (t:Ty) (es:List (List (TV G))):Option (List (t.D G)):=A4 (fun cs=>yK g t (qI t cs)) es
theorem iL {g:Ge G} (hg:g.Ok) (ln:Nat->Nat) {t:Ty} {es:List (List (TV G))} {l:List (t.D G)} (h:pg g t es=some l):TV.cV g ln es=l.map (enc g t)/\es.length=l.length:=by
 have e:es.map (TV.aP g ln)=l.map (enc g t):=vc (f:=fun cs=>yK g t (qI t cs)) (fun cs y hy=>by
  rw [<-fT hy,<-dn,mB hg ln t _ _ hy,gM]) h
 exact ⟨by rw [bu,e],by have:=congrArg List.length e;simpa using this⟩
def scT:TV G->Option Ty
 | .int k _=>some (.int k)
 | .bool _=>some .bool
 | .str _=>some .str
 | _=>none
def Zk:List (List (TV G))->Option Ty
 | (x::_)::_=>scT x
 | _=>none
def TB (g:Ge G) (sz:Nat) (es:List (List (TV G))):Option Ty->TO G
 | some t=>if Nat.beq (t.n g) sz then (match pg g t es with | some l=> .aQ .norm t l | none=> .cQ .norm sz es) else .cQ .norm sz es
 | none=> .cQ .norm sz es
def uO (g:Ge G) (sz:Nat) (es:List (List (TV G))):TO G:=TB g sz es (Zk es)
theorem Ic {g:Ge G} (hg:g.Ok) (sz:Nat) (es:List (List (TV G))):uO g sz es= .cQ .norm sz es\/∃ t l,uO g sz es= .aQ .norm t l/\t.n g=sz/\l.length=es.length/\∀ ln,TV.cV g ln es=l.map (enc g t):=by
 unfold uO;generalize Zk es=o
 cases o with
 | none=>exact .inl rfl
 | some t=>
  rw [TB];by_cases h1:Nat.beq (t.n g) sz=true
  ·rw [if_pos h1]
   cases h2:pg g t es with
   | none=>exact .inl rfl
   | some l=>exact .inr ⟨t,l,rfl,za3 h1,(iL hg (fun _=>0) h2).2.symm,fun ln=>(iL hg ln h2).1⟩
  ·rw [if_neg h1];exact .inl rfl
def Qz (g:Ge G) (s:DS G) (pl sz:Nat) (z:List AV) (len:Nat) (parts:List (Nat×TV G)) (c:TV G->DS G->Option R):Option R:=
 if Nat.beq z.length sz&&(aW z&&Nat.ble (len*sz) 16777216) then
  (match Bn g sz (List.replicate len (iI z)) parts with
   | some es=>if s.fits pl (uO g sz es) then c (.own pl) (s.dL pl (uO g sz es)) else none
   | none=>none)
 else none
def FD:TV G->TV G
 | .raw v=>(match v with | .bF=> .o4 [] | v=> .raw v)
 | .gr t o=> .aQ t (o.getD [])
 | v=>v
theorem Rp {g:Ge G} {ln:Nat->Nat} (v:TV G):(FD v).av g ln=(v.av g ln).Jq:=by
 cases v with
 | raw a=>cases a<;>rfl
 | gr t o=>cases o<;>rfl
 | dO t o=>cases o<;>rfl
 | sa i lo len=>show (if len=0 then AV.ro [] else .arr i 1 0 lo 1 len)=AV.Jq (if len=0 then AV.ro [] else .arr i 1 0 lo 1 len);split<;>rfl
 | _=>rfl
theorem ve {g:Ge G} {ln:Nat->Nat} (l:List (TV G)):TV.aP g ln (l.map FD)=(TV.aP g ln l).map AV.Jq:=by
 rw [bV,bV,zb6,zb6];exact zaR fun v _=>Rp v
inductive LK (G:Nat->Type) where
 | ty (t:Ty) (l:List (t.D G))
 | raw (es:List (List (TV G)))
def LK.av (g:Ge G) (ln:Nat->Nat):LK G->List (List AV)
 | .ty t l=>l.map (enc g t)
 | .raw es=>TV.cV g ln es
def F2 (H:List (TO G)):TV G->Option (LK G)
 | .aQ t l=>some (.ty t l)
 | .o4 es=>some (.raw es)
 | .raw .bF=>some (.raw [])
 | .own id=>(match H[id]? with
  | some (.aQ _ t l)=>some (.ty t l)
  | some (.cQ _ _ es)=>some (.raw es)
  | _=>none)
 | .sa id lo len m _=>(match H[id]? with
  | some (.arr n t a)=>if t= .bool/\m=n then some (.ty t ((a.1.drop lo).take len)) else none
  | _=>none)
 | _=>none
theorem saA {H:List Obj} {id n sz lo len:Nat} (a:eB n Bool) (hH:H[id]?=some (.live .norm sz [(a.1.map fun b=>[AV.bool b]).flatten])) (hc:lo+len<=n):
 fJ H id 1 0 lo 1 len=some (((a.1.drop lo).take len).map fun b=>[AV.bool b]):=by
 have hn:=a.2;rw [vW (f:=AV.bool)] at hH;simp only [fJ,aC,hH,zaA,if_true,zaq,zaa,hn,zbv];rw [if_pos hc,<-zc,qe (C:=fun b=>[AV.bool b]) (fun _=>rfl) len _ (by rw [List.length_drop,hn];omega)]
theorem lO {g:Ge G} {s:DS G} {x:TV G} {l:LK G} (h:F2 s.H x=some l):dz (s.Hv g) (x.av g s.ln)=some (l.av g s.ln):=by
 unfold F2 at h;split at h
 ·injection h with h;subst h;rfl
 ·injection h with h;subst h;rfl
 ·injection h with h;subst h;rfl
 ·rename_i id;split at h
  ·rename_i fl t l hid;injection h with h;subst h
   have e2:s.ln id=l.length:=by unfold DS.ln ju;rw [hid];rfl
   simp only [TV.av,dz,aC,bl hid,TO.av,zaa,e2,if_true,zaW,LK.av];rw [zah (by simp)]
  ·rename_i fl sz es hid;injection h with h;subst h
   have e2:s.ln id=es.length:=by unfold DS.ln ju;rw [hid];rfl
   simp only [TV.av,dz,aC,bl hid,TO.av,bu,zaa,e2,if_true,zaW,LK.av];rw [zah (by simp)]
  ·cases h
 ·rename_i id lo len m hm;split at h
  case h_2=>cases h
  rename_i n t a hid;split at h
  case isFalse=>cases h
  rename_i hc;obtain ⟨rfl,rfl⟩:=hc;injection h with h;subst h
  rw [show (TV.sa id lo len _ hm:TV G).av g s.ln=if len=0 then .ro [] else .arr id 1 0 lo 1 len from rfl];by_cases h0:len=0
  ·subst h0;rw [if_pos rfl];simp only [LK.av,List.take_zero,List.map_nil];rfl
  ·rw [if_neg h0];exact saA (show eB _ Bool from a) (bl hid) hm
 ·cases h
def wu (sz:Nat):List (List (TV G))->Bool
 | []=>true
 | e::r=>Nat.beq e.length sz&&(iE e&&wu sz r)
theorem th {g:Ge G} {ln:Nat->Nat} {sz:Nat}:∀ {es:List (List (TV G))},wu sz es=true->((TV.cV g ln es).all fun e=>e.length==sz&&aW e)=true
 | [],_=>rfl
 | e::r,h=>by
  simp only [wu,za0] at h;rw [TV.cV,zbI,th h.2.2,fS g ln h.2.1,dy,za3 h.1];simp
theorem U0 {g:Ge G} (hg:g.Ok) {t:Ty} (l:List (t.D G)):((l.map (enc g t)).all fun e=>e.length==t.n g&&aW e)=true:=by
 rw [List.all_map,zaf];intro x _;simp [(cT hg t).len,(cT hg t).one]
def QA (g:Ge G) (s:DS G) (sz bytes:Nat) (x y:TV G) (c:TV G->DS G->Option R):Option R:=match x with
 | .own id=>(match s.H[id]?,F2 s.H y with
  | some (.aQ fl t l),some (.ty u m)=>if h:u=t then (if fl.uf&&Nat.beq (t.n g) sz then (bX bytes l (h▸m)).bind fun v=>c (.own id) (s.cY id (.aQ fl t v)) else none) else none
  | some (.aQ fl t l),some (.raw es)=>if fl.uf&&Nat.beq (t.n g) sz then (match pg g t es with
   | some m=>(bX bytes l m).bind fun v=>c (.own id) (s.cY id (.aQ fl t v))
   | none=>(match pg g t (es.map (List.map FD)) with
    | some m=>if wu sz es&&TV.jf id es then (bX bytes l m).bind fun _=>c (.own id) (s.cY id (.mix fl t l es)) else none
    | none=>none)) else none
  | some (.cQ fl sz' es),some (.ty t m)=>if fl.uf&&(Nat.beq (t.n g) sz&&Nat.beq sz' sz) then (match pg g t es with
   | some l=>(bX bytes l m).bind fun v=>c (.own id) (s.cY id (.aQ fl t v))
   | none=>none) else none
  | some (.cQ fl sz' es),some (.raw es')=>if fl.uf&&(wu sz es'&&Nat.beq sz' sz) then (bX bytes es es').bind fun v=>if TV.jf id v then c (.own id) (s.cY id (.cQ fl sz v)) else none else none
  | _,_=>none)
 | _=>none
def tyC:List AV->Option ((t:Ty)×t.D G)
 | [.int k n]=>some ⟨.int k,n⟩
 | [.bool b]=>some ⟨.bool,b⟩
 | [.str l]=>some ⟨.str,l⟩
 | _=>none
theorem MC {g:Ge G} {z:List AV} {p:(t:Ty)×t.D G} (h:tyC z=some p):z=enc g p.1 p.2/\z.length=1:=by
 unfold tyC at h;split at h<;>first | (injection h with h;subst h;exact ⟨rfl,rfl⟩) | cases h
def LJ:RX->RX->Bool
 | .t a,.t b=>Nat.beq a b
 | .c (.int k a),.c (.int j b)=>decide (k=j)&&decide (a=b)
 | _,_=>false
theorem Nz {x y:RX} (h:LJ x y=true):x=y:=by
 unfold LJ at h;split at h
 ·rw [za3 h]
 ·simp only [za0,decide_eq_true_eq] at h;rw [h.1,h.2]
 ·cases h
def U1 (s:DS G) (pl sz:Nat) (z:List AV) (bytes:Nat) (n:TV G) (c:TV G->DS G->Option R):Option R:=match n with
 | .int .i64 n=>(match tyC z with
  | some p=>if Nat.beq sz 1 then (iD bytes n p.2).bind fun l=>if s.fits pl (.aQ .norm p.1 l) then c (.own pl) (s.dL pl (.aQ .norm p.1 l)) else none else none
  | none=>none)
 | _=>none
end
end oe
