/- Typed states: operations that read memory and operations that change it. No condition. -/
import Derived.Test.YtafgdbaekppjcaaGreatDoorDnB
set_option linter.unusedSectionVars false
set_option linter.unusedVariables false
set_option linter.unusedSimpArgs false
namespace oZ
open Go hiding Obj mark
open Go.Pl Go.Am Go.Am.As
section
variable {G:Nat->Type} {R:Type}
theorem oh {α:Type} {l:List α} {i:Int} {v:α} (h:idx l i=some v):0<=i/\i.toNat < l.length/\l[i.toNat]?=some v:=by
 unfold idx at h;split at h
 case isFalse=>cases h
 obtain ⟨h1,_⟩:=zaa.1 h;exact ⟨by assumption,h1,h⟩
theorem rD {g:Ge G} (hg:g.Ok) (t:Ty) (l:List (t.D G)):(List.map (enc g t) l).flatten.length=l.length*t.n g:=by
 induction l with
 | nil=>simp
 | cons x l ih=>simp only [za5,zaS,za9,ih,(c6 hg t).len,zaR,Nat.succ_mul];omega
def Cg (g:Ge G) (H:List (TO G)) (n:Nat) (ag:Bool) (x:TV G) (c:TV G->Option R):Option R:=match x with
 | .bZ cs=>(match nw n ag cs 0 with | some v=>c v | none=>none)
 | .po id o=>(match H[id]? with
  | some (.box cs)=>(match nw n ag cs o with | some v=>c v | none=>none)
  | some (.arr m t a)=>if ag&&(Nat.beq o 0&&Nat.beq n (m*t.n g)) then c (.arr m t a) else
   if Nat.beq (t.n g) 1&&Nat.beq n 1 then (oT a (o:Int)).bind fun v=>(match nw n ag ((view g t v).cells g) 0 with | some v=>c v | none=>none) else none
  | _=>none)
 | .pe id i o=>(match H[id]? with
  | some (.aL fl t l)=>(idx l i).bind fun v=>(match nw n ag ((view g t v).cells g) o with | some v=>c v | none=>none)
  | some (.cX fl sz es)=>(idx es i).bind fun cs=>(match nw n ag cs o with | some v=>c v | none=>none)
  | _=>none)
 | .pa id sz i o=>(match H[id]? with
  | some (.arr m t a)=>if Nat.beq (t.n g) sz&&(Nat.ble (o+n) sz&&(ag||Nat.beq n 1)) then (oT a i).bind fun v=>(match nw n ag ((view g t v).cells g) o with | some v=>c v | none=>none) else none
  | _=>none)
 | _=>none
theorem wT {g:Ge G} (hg:g.Ok) {s:DS G} {n:Nat} {ag:Bool} {x:TV G} {c:TV G->Option R} {r:R} (h:Cg g s.H n ag x c=some r):∃ w:TV G,loadAt (s.Hv g) n ag (x.av g s.ln)=some (w.av g s.ln)/\c w=some r:=by
 unfold Cg at h;split at h
 ·split at h
  case h_2=>cases h
  rename_i v hv;exact ⟨v,fQ hv,h⟩
 ·rename_i id o;split at h
  ·rename_i cs hid;split at h
   case h_2=>cases h
   rename_i v hv;refine ⟨v,?_,h⟩;simp only [TV.av,loadAt,aH,bw hid,TO.av,zag,if_true,zas];exact fQ hv
  ·rename_i m t a hid;have hl:(List.map (enc g t) a.1).flatten.length=m*t.n g:=by rw [rD hg,a.2]
   split at h
   ·rename_i hc;simp only [za0] at hc;have e1:=za3 hc.2.1;have e2:=za3 hc.2.2;subst e1;subst e2;rw [hc.1];refine ⟨_,?_,h⟩;simp only [TV.av,loadAt,aH,bw hid,TO.av,zag,if_true,zas,Am.part,hl,zaD,za6,zaQ];rw [zad (by rw [hl];exact za6 _)]
   ·split at h
    case isFalse=>cases h
    rename_i hc;simp only [za0] at hc;have e1:=za3 hc.1;have e2:=za3 hc.2;obtain ⟨v,h1,h2⟩:=bind_some h;obtain ⟨h3,h4,h5⟩:=oi h1;split at h2
    case h_2=>cases h2
    rename_i w hw;refine ⟨w,?_,h2⟩;have h6:=fQ (g:=g) (ln:=s.ln) hw;rw [gO hg] at h6;have h7:=Bf (o:=0) (c6 hg t).len h5 (by rw [e1,e2];exact za6 _) (fun _=>e2) h6;simp only [TV.av,loadAt,aH,bw hid,TO.av,zag,if_true,zas];rw [e1] at h7;simpa using h7
  ·cases h
 ·rename_i id i o;split at h
  case h_3=>cases h
  ·rename_i fl t l hid;obtain ⟨v,h1,h2⟩:=bind_some h;obtain ⟨h3,h4,h5⟩:=oh h1;split at h2
   case h_2=>cases h2
   rename_i w hw;refine ⟨w,?_,h2⟩;have h6:=fQ (g:=g) (ln:=s.ln) hw;rw [gO hg] at h6;have e:s.ln id=l.length:=by unfold DS.ln kg;rw [hid];rfl
   simp only [TV.av,loadAt,aH,bw hid,TO.av,zah,e,if_true,zay,h5,zaL];exact h6
  ·rename_i fl sz es hid;obtain ⟨cs,h1,h2⟩:=bind_some h;obtain ⟨h3,h4,h5⟩:=oh h1;split at h2
   case h_2=>cases h2
   rename_i w hw;refine ⟨w,?_,h2⟩;have h6:=fQ (g:=g) (ln:=s.ln) hw;have e:s.ln id=es.length:=by unfold DS.ln kg;rw [hid];rfl
   simp only [TV.av,loadAt,aH,bw hid,TO.av,br,zah,e,if_true,zay,h5,zaL];exact h6
 ·rename_i id sz i o;split at h
  case h_2=>cases h
  rename_i m t a hid;split at h
  case isFalse=>cases h
  rename_i hc;simp only [za0] at hc;have e1:=za3 hc.1;have e2:=zau hc.2.1;subst e1;obtain ⟨v,h1,h2⟩:=bind_some h;obtain ⟨h3,h4,h5⟩:=oi h1;split at h2
  case h_2=>cases h2
  rename_i w hw;refine ⟨w,?_,h2⟩;have h6:=fQ (g:=g) (ln:=s.ln) hw;rw [gO hg] at h6;have h7:=Bf (c6 hg t).len h5 e2 (fun e=>by
   have:=hc.2.2;rw [e] at this;exact za3 (by simpa using this)) h6
  simp only [TV.av,loadAt,aH,bw hid,TO.av,zag,if_true,zas];exact h7
 ·cases h
def Gm (g:Ge G) (H:List (TO G)) (sz:Nat) (x i:TV G) (c:TV G->Option R):Option R:=match i with
 | .int _ n=>(match x with
  | .aL t l=>if Nat.beq (t.n g) sz then (idx l n).bind fun v=>c (.bZ ((view g t v).cells g)) else none
  | .own id=>(match H[id]? with
   | some (.aL fl t l)=>if Nat.beq (t.n g) sz then (idx l n).bind fun _=>c (.pe id n 0) else none
   | some (.cX fl sz' es)=>if Nat.beq sz' sz then (idx es n).bind fun _=>c (.pe id n 0) else none
   | _=>none)
  | .qx es=>AE n (fun j=>match es[j]? with | some cs=>if Nat.beq cs.length sz then c (.bZ cs) else none | none=>none) es.length 0
  | _=>none)
 | _=>none
theorem CN {g:Ge G} (hg:g.Ok) {s:DS G} {sz:Nat} {x i:TV G} {c:TV G->Option R} {r:R} (h:Gm g s.H sz x i c=some r):∃ w:TV G,jb (s.Hv g) sz (x.av g s.ln) (i.av g s.ln)=some (w.av g s.ln)/\c w=some r:=by
 unfold Gm at h;split at h
 case h_2=>cases h
 rename_i k n;split at h
 ·rename_i t l;split at h
  case isFalse=>cases h
  rename_i hc;have e:=za3 hc;obtain ⟨v,h1,h2⟩:=bind_some h;obtain ⟨h3,h4,h5⟩:=oh h1;refine ⟨_,?_,h2⟩;simp only [TV.av,jb,if_pos h3,zay,h5,zaL,(c6 hg t).len,e,if_true,gO hg]
 ·rename_i id;split at h
  case h_3=>cases h
  ·rename_i fl t l hid;split at h
   case isFalse=>cases h
   rename_i hc;have e:=za3 hc;obtain ⟨v,h1,h2⟩:=bind_some h;obtain ⟨h3,h4,h5⟩:=oh h1;refine ⟨_,?_,h2⟩;have e2:s.ln id=l.length:=by unfold DS.ln kg;rw [hid];rfl
   simp only [TV.av,jb,aH,bw hid,TO.av,zah,e2,e];rw [if_pos ⟨trivial,trivial,h3,by omega⟩,zaD]
  ·rename_i fl sz' es hid;split at h
   case isFalse=>cases h
   rename_i hc;have e:=za3 hc;obtain ⟨v,h1,h2⟩:=bind_some h;obtain ⟨h3,h4,h5⟩:=oh h1;refine ⟨_,?_,h2⟩;have e2:s.ln id=es.length:=by unfold DS.ln kg;rw [hid];rfl
   simp only [TV.av,jb,aH,bw hid,TO.av,br,zah,e2,e];rw [if_pos ⟨trivial,trivial,h3,by omega⟩,zaD]
 ·rename_i es;obtain ⟨j,_,rfl,h2⟩:=vc h;split at h2
  case h_2=>cases h2
  rename_i cs hcs;split at h2
  case isFalse=>cases h2
  rename_i hc;have e:=za3 hc;refine ⟨_,?_,h2⟩;simp only [TV.av,jb,if_pos (Int.natCast_nonneg j),zbj,br,zay,hcs,zaL,dH,e,if_true]
 ·cases h
def SQ (g:Ge G) (sz:Nat) (x:TV G) (lo hi:Option (TV G)) (c:TV G->Option R):Option R:=match x,AF lo,AF hi with
 | .aL t l,some a,some b=>if Nat.beq (t.n g) sz then (oS l a b).bind fun v=>c (.aL t v) else none
 | _,_,_=>none
theorem Pe {g:Ge G} (hg:g.Ok) {s:DS G} {sz:Nat} {x:TV G} {lo hi:Option (TV G)} {c:TV G->Option R} {r:R} (h:SQ g sz x lo hi c=some r):∃ w:TV G,slc (s.Hv g) sz (x.av g s.ln) (lo.map (TV.av g s.ln)) (hi.map (TV.av g s.ln))=some (w.av g s.ln)/\c w=some r:=by
 unfold SQ at h;split at h
 case h_2=>cases h
 rename_i t l a b ha hb;split at h
 case isFalse=>cases h
 rename_i hc;have e:=za3 hc;obtain ⟨v,h1,h2⟩:=bind_some h;refine ⟨_,?_,h2⟩;obtain ⟨p,q,e1,e2,e3,e4,e5,_,_⟩:=Bg h1 (oj (g:=g) (ln:=s.ln) ha) (oj (g:=g) (ln:=s.ln) hb);simp only [TV.av,slc,zah,e1,e2];by_cases hpq:p=q
 ·subst hpq;rw [if_pos rfl,e5];simp
 ·rw [if_neg hpq];have hp:p < l.length:=by omega
  simp only [zay,za2 hp,zaL,(c6 hg t).len,e,if_true];rw [e5,zbP,List.map_drop]
def Ry (H:List (TO G)) (neg:Bool) (x:TV G) (c:TV G->Option R):Option R:=match x with
 | .raw .bD=>c (.bool (true !=neg))
 | .aL t l=>(Od l).bind fun _=>c (.bool (false !=neg))
 | .gC t o=>(aad o).bind fun b=>c (.bool (b !=neg))
 | .own id=>(match H[id]? with
  | some (.aL fl t l)=>c (.bool ((decide (fl= .nil)&&l.isEmpty) !=neg))
  | some (.cX fl sz es)=>c (.bool ((decide (fl= .nil)&&es.isEmpty) !=neg))
  | _=>none)
 | _=>none
def SS (H:List (TO G)) (neg:Bool) (x y:TV G) (c:TV G->Option R):Option R:=match y with
 | .raw .bD=>Ry H neg x c
 | _=>none
theorem Pf {g:Ge G} {s:DS G} {neg:Bool} {x y:TV G} {c:TV G->Option R} {r:R} (h:SS s.H neg x y c=some r):∃ w:TV G,Ax (s.Hv g) neg (x.av g s.ln) (y.av g s.ln)=some (w.av g s.ln)/\c w=some r:=by
 unfold SS at h;split at h
 case h_2=>cases h
 have key:∀ {b:Bool},isNil (s.Hv g) (x.av g s.ln)=some b->Ax (s.Hv g) neg (x.av g s.ln) ((TV.raw .bD:TV G).av g s.ln)=some (.bool (b !=neg)):=by
  intro b hb;show (match x.av g s.ln,AV.bD with
   | x,.bD=>(match isNil (s.Hv g) x with | some b=>some (AV.bool (b !=neg)) | none=>none)
   | .bD,y=>(match isNil (s.Hv g) y with | some b=>some (AV.bool (b !=neg)) | none=>none)
   | _,_=>none)=_
  dsimp only;rw [hb]
 unfold Ry at h;split at h
 ·exact ⟨.bool _,key rfl,h⟩
 ·rename_i t l;obtain ⟨v,h1,h2⟩:=bind_some h;refine ⟨.bool _,key (b:=false) ?_,h2⟩
  cases l with
  | nil=>cases h1
  | cons x l=>rfl
 ·rename_i t o;obtain ⟨v,h1,h2⟩:=bind_some h;refine ⟨.bool _,key (b:=v) ?_,h2⟩
  cases o with
  | none=>exact h1
  | some l=>cases l with
   | nil=>cases h1
   | cons x l=>exact h1
 ·rename_i id;split at h
  ·rename_i fl t l hid;refine ⟨.bool _,key (b:=decide (fl= .nil)&&l.isEmpty) ?_,h⟩;have e2:s.ln id=l.length:=by unfold DS.ln kg;rw [hid];rfl
   simp only [TV.av,isNil,aH,bw hid,TO.av,zah,e2,if_true,cD]
   cases l<;>simp
  ·rename_i fl sz es hid;refine ⟨.bool _,key (b:=decide (fl= .nil)&&es.isEmpty) ?_,h⟩;have e2:s.ln id=es.length:=by unfold DS.ln kg;rw [hid];rfl
   simp only [TV.av,isNil,aH,bw hid,TO.av,br,zah,e2,if_true,cD]
   cases es<;>simp
  ·cases h
 ·cases h
def Kb (g:Ge G) (H:List (TO G)) (len sz:Nat) (x:TV G) (lo hi:Option (TV G)) (c:TV G->Option R):Option R:=match x with
 | .po id o=>(match H[id]?,AF lo,AF hi with
  | some (.arr m t a),some p,some q=>if Nat.beq o 0&&(Nat.beq m len&&(Nat.beq (t.n g) 1&&Nat.beq sz 1)) then
   (oS a.1 p q).bind fun _=>if h:(p.getD 0).toNat+((q.getD a.1.length).toNat - (p.getD 0).toNat)<=m then c (.sa id (p.getD 0).toNat ((q.getD a.1.length).toNat - (p.getD 0).toNat) m h) else none else none
  | _,_,_=>none)
 | _=>none
theorem L0 {g:Ge G} (hg:g.Ok) {s:DS G} {len sz:Nat} {x:TV G} {lo hi:Option (TV G)} {c:TV G->Option R} {r:R} (h:Kb g s.H len sz x lo hi c=some r):∃ w:TV G,kU (s.Hv g) len sz (x.av g s.ln) (lo.map (TV.av g s.ln)) (hi.map (TV.av g s.ln))=some (w.av g s.ln)/\c w=some r:=by
 unfold Kb at h;split at h
 case h_2=>cases h
 rename_i id o;split at h
 case h_2=>cases h
 rename_i m t a p q hid ha hb;split at h
 case isFalse=>cases h
 rename_i hc;simp only [za0] at hc;have e1:=za3 hc.1;have e2:=za3 hc.2.1;have e3:=za3 hc.2.2.1;have e4:=za3 hc.2.2.2;subst e1;subst e2;subst e4;obtain ⟨v,h1,h2⟩:=bind_some h;split at h2
 case isFalse=>cases h2
 refine ⟨_,?_,h2⟩;simp only [TV.av];obtain ⟨i,j,f1,f2,f3,f4,_,f6,f7⟩:=Bg h1 (oj (g:=g) (ln:=s.ln) ha) (oj (g:=g) (ln:=s.ln) hb);rw [f6,f7];have hl:a.1.length=m:=a.2;rw [hl] at f1 f4;simp only [kU,f1,f2];by_cases hij:i=j
 ·subst hij;simp
 ·rw [if_neg hij,if_neg (by omega)];simp only [aH,bw hid,TO.av,zag,e3,zbH,zaD];rw [if_pos ⟨trivial,by omega,za6 _⟩]
def SU (g:Ge G) (s:DS G) (pl:Nat) (v:TV G) (c:TV G->DS G->Option R):Option R:=match v with
 | .arr n t a=>if s.fits pl (.arr n t a) then c (.po pl 0) (s.eE pl (.arr n t a)) else none
 | v=>if iB (v.cells g)&&s.fits pl (.box (v.cells g)) then c (.po pl 0) (s.eE pl (.box (v.cells g))) else none
def Oe (b:Bool):List AV->Bool
 | []=>true
 | .bool c::r=>(b==c)&&Oe b r
 | _=>false
def allI (k:IntKind) (n:Int):List AV->Bool
 | []=>true
 | .int k' m::r=>decide (k'=k)&&(decide (m=n)&&allI k n r)
 | _=>false
def rE (z:List AV):TO G:=match z with
 | .bool b::_=>if Nat.ble 4 z.length&&Oe b z then .arr z.length .bool (fh.rep z.length b) else .box (iK z)
 | .int k n::_=>if Nat.ble 4 z.length&&allI k n z then .arr z.length (.int k) (fh.rep z.length (show Int from n)) else .box (iK z)
 | _=> .box (iK z)
theorem GN {b:Bool}:∀ {z:List AV},Oe b z=true->z=List.replicate z.length (.bool b)
 | [],_=>rfl
 | x::z,h=>by
  cases x with
  | bool c=>
   simp only [Oe,za0,beq_iff_eq] at h;rw [zaR,zbF,<-GN h.2,h.1]
  | _=>cases h
theorem GO {k:IntKind} {n:Int}:∀ {z:List AV},allI k n z=true->z=List.replicate z.length (.int k n)
 | [],_=>rfl
 | x::z,h=>by
  cases x with
  | int k' m=>
   simp only [allI,za0,decide_eq_true_eq] at h;rw [zaR,zbF,<-GO h.2.2,h.1,h.2.1]
  | _=>cases h
theorem zA:∀ l:List AV,(iK l:List (TV G)).length=l.length
 | []=>rfl
 | x::l=>by rw [iK,zaR,zA l];rfl
theorem wU {α:Type} (x:α):∀ n,((List.replicate n x).map fun y=>[y]).flatten=List.replicate n x
 | 0=>rfl
 | n+1=>by rw [zbF,za5,zaS,wU x n];rfl
theorem DX (g:Ge G) (ln:Nat->Nat) (F:List (T×C3)) (z:List AV):(rE z:TO G).av g ln F= .live .norm z.length [z]:=by
 have hb:(TO.box (iK z):TO G).av g ln F= .live .norm z.length [z]:=by
  show Obj.live _ _ _=_;rw [zA,gP]
 unfold rE;split
 ·rename_i b r;split
  ·rename_i hc;simp only [za0] at hc;have e:=GN hc.2;show Obj.live .norm ((AV.bool b::r).length*1) [(List.map (fun x=>[AV.bool x]) (List.replicate (AV.bool b::r).length b)).flatten]=_;rw [zbs,zbH,<-zbs (f:=fun x=>[x]),wU,<-e]
  ·exact hb
 ·rename_i k n r;split
  ·rename_i hc;simp only [za0] at hc;have e:=GO hc.2;show Obj.live .norm ((AV.int k n::r).length*1) [(List.map (fun x=>[AV.int k x]) (List.replicate (AV.int k n::r).length n)).flatten]=_;rw [zbs,zbH,<-zbs (f:=fun x=>[x]),wU,<-e]
  ·exact hb
 ·exact hb
def EZ (s:DS G) (pl:Nat) (z:List AV) (c:TV G->DS G->Option R):Option R:=
 if aV z&&s.fits pl (rE z) then c (.po pl 0) (s.eE pl (rE z)) else none
def AU (g:Ge G) (sz:Nat):List (List (TV G))->List (Nat×TV G)->Option (List (List (TV G)))
 | es,[]=>some es
 | es,(i,v)::r=>if Nat.beq (v.cells g).length sz&&(Nat.blt i es.length&&iB (v.cells g)) then AU g sz (es.set i (v.cells g)) r else none
theorem zB {g:Ge G} {ln:Nat->Nat} {sz:Nat}:∀ {r:List (Nat×TV G)} {es l:List (List (TV G))},AU g sz es r=some l->kj sz (TV.dc g ln es) (r.map fun p=>(p.1,p.2.av g ln))=some (TV.dc g ln l)/\l.length=es.length
 | [],es,l,h=>by injection h with h;subst h;exact ⟨rfl,rfl⟩
 | (i,v)::r,es,l,h=>by
  rw [AU] at h;split at h
  case isFalse=>cases h
  rename_i hc;simp only [za0] at hc;have h1:=za3 hc.1;have h2:i < es.length:=by simpa [zbS] using hc.2.1
  obtain ⟨h3,h4⟩:=zB (g:=g) (ln:=ln) h;refine ⟨?_,by rw [h4,zbK]⟩;rw [za5,kj,dD,if_pos ⟨by rw [dH];exact h1,by rw [br,zah];exact h2,ga g ln hc.2.2⟩];rw [<-h3,br,br,zbJ]
def E1 (g:Ge G) (s:DS G) (n:Nat) (x v:TV G) (c:TV G->DS G->Option R):Option R:=match x with
 | .po id o=>(match s.H[id]? with
  | some (.box cs)=>if Nat.beq (v.cells g).length n&&(Nat.ble (o+n) cs.length&&iB (v.cells g)) then c (.raw (.bl [])) (s.iT id (.box (mo cs o (v.cells g)))) else none
  | some (.arr m t a)=>(match v with
   | .arr m' t' a'=>if h:m'=m/\t'=t then (if Nat.beq o 0&&Nat.beq n (m*t.n g) then c (.raw (.bl [])) (s.iT id (.arr m' t' a')) else none) else none
   | v=>if Nat.beq (t.n g) 1&&Nat.beq n 1 then
    (match yC g t (qD t (v.cells g)) with
     | some w=>(oT a (o:Int)).bind fun _=>c (.raw (.bl [])) (s.iT id (.arr m t (a.put o w)))
     | none=>none) else none)
  | _=>none)
 | .pe id i o=>(match s.H[id]? with
  | some (.aL fl t l)=>if fl.free&&(Nat.beq (v.cells g).length n&&(Nat.ble (o+n) (t.n g)&&iB (v.cells g))) then
   (idx l i).bind fun u=>(match yC g t (qD t (mo ((view g t u).cells g) o (v.cells g))) with
    | some w=>c (.raw (.bl [])) (s.iT id (.aL fl t (l.set i.toNat w)))
    | none=>none) else none
  | _=>none)
 | .pa id sz i o=>(match s.H[id]? with
  | some (.arr m t a)=>if Nat.beq (t.n g) sz&&(Nat.beq n sz&&Nat.beq o 0) then
   (match yC g t (qD t (v.cells g)) with
    | some w=>(oT a i).bind fun _=>c (.raw (.bl [])) (s.iT id (.arr m t (a.put i.toNat w)))
    | none=>none) else none
  | _=>none)
 | _=>none
def o6 (g:Ge G) (t:Ty) (es:List (List (TV G))):Option (List (t.D G)):=AG (fun cs=>yC g t (qD t cs)) es
theorem iN {g:Ge G} (hg:g.Ok) (ln:Nat->Nat) {t:Ty} {es:List (List (TV G))} {l:List (t.D G)} (h:o6 g t es=some l):TV.dc g ln es=l.map (enc g t)/\es.length=l.length:=by
 have e:es.map (TV.aS g ln)=l.map (enc g t):=ve (f:=fun cs=>yC g t (qD t cs)) (fun cs y hy=>by
  rw [<-gb hy,<-dD,mq hg ln t _ _ hy,gQ]) h
 exact ⟨by rw [br,e],by have:=congrArg List.length e;simpa using this⟩
def scT:TV G->Option Ty
 | .int k _=>some (.int k)
 | .bool _=>some .bool
 | .str _=>some .str
 | _=>none
def Xl:List (List (TV G))->Option Ty
 | (x::_)::_=>scT x
 | _=>none
def Rz (g:Ge G) (sz:Nat) (es:List (List (TV G))):Option Ty->TO G
 | some t=>if Nat.beq (t.n g) sz then (match o6 g t es with | some l=> .aL .norm t l | none=> .cX .norm sz es) else .cX .norm sz es
 | none=> .cX .norm sz es
def uJ (g:Ge G) (sz:Nat) (es:List (List (TV G))):TO G:=Rz g sz es (Xl es)
theorem GP {g:Ge G} (hg:g.Ok) (sz:Nat) (es:List (List (TV G))):uJ g sz es= .cX .norm sz es\/∃ t l,uJ g sz es= .aL .norm t l/\t.n g=sz/\l.length=es.length/\∀ ln,TV.dc g ln es=l.map (enc g t):=by
 unfold uJ;generalize Xl es=o
 cases o with
 | none=>exact .inl rfl
 | some t=>
  rw [Rz];by_cases h1:Nat.beq (t.n g) sz=true
  ·rw [if_pos h1]
   cases h2:o6 g t es with
   | none=>exact .inl rfl
   | some l=>exact .inr ⟨t,l,rfl,za3 h1,(iN hg (fun _=>0) h2).2.symm,fun ln=>(iN hg ln h2).1⟩
  ·rw [if_neg h1];exact .inl rfl
def Of (g:Ge G) (s:DS G) (pl sz:Nat) (z:List AV) (len:Nat) (parts:List (Nat×TV G)) (c:TV G->DS G->Option R):Option R:=
 if Nat.beq z.length sz&&(aV z&&Nat.ble (len*sz) 16777216) then
  (match AU g sz (List.replicate len (iK z)) parts with
   | some es=>if s.fits pl (uJ g sz es) then c (.own pl) (s.eE pl (uJ g sz es)) else none
   | none=>none)
 else none
def EI:TV G->TV G
 | .raw v=>(match v with | .bD=> .qx [] | v=> .raw v)
 | .gC t o=> .aL t (o.getD [])
 | v=>v
theorem Pg {g:Ge G} {ln:Nat->Nat} (v:TV G):(EI v).av g ln=(v.av g ln).HU:=by
 cases v with
 | raw a=>cases a<;>rfl
 | gC t o=>cases o<;>rfl
 | eg t o=>cases o<;>rfl
 | sa i lo len=>show (if len=0 then AV.ro [] else .arr i 1 0 lo 1 len)=AV.HU (if len=0 then AV.ro [] else .arr i 1 0 lo 1 len);split<;>rfl
 | _=>rfl
theorem vf {g:Ge G} {ln:Nat->Nat} (l:List (TV G)):TV.aS g ln (l.map EI)=(TV.aS g ln l).map AV.HU:=by
 rw [bU,bU,zb,zb];exact zaI fun v _=>Pg v
inductive LK (G:Nat->Type) where
 | ty (t:Ty) (l:List (t.D G))
 | raw (es:List (List (TV G)))
def LK.av (g:Ge G) (ln:Nat->Nat):LK G->List (List AV)
 | .ty t l=>l.map (enc g t)
 | .raw es=>TV.dc g ln es
def E2 (H:List (TO G)):TV G->Option (LK G)
 | .aL t l=>some (.ty t l)
 | .qx es=>some (.raw es)
 | .raw .bD=>some (.raw [])
 | .own id=>(match H[id]? with
  | some (.aL _ t l)=>some (.ty t l)
  | some (.cX _ _ es)=>some (.raw es)
  | _=>none)
 | _=>none
theorem lM {g:Ge G} {s:DS G} {x:TV G} {l:LK G} (h:E2 s.H x=some l):dI (s.Hv g) (x.av g s.ln)=some (l.av g s.ln):=by
 unfold E2 at h;split at h
 ·injection h with h;subst h;rfl
 ·injection h with h;subst h;rfl
 ·injection h with h;subst h;rfl
 ·rename_i id;split at h
  ·rename_i fl t l hid;injection h with h;subst h
   have e2:s.ln id=l.length:=by unfold DS.ln kg;rw [hid];rfl
   simp only [TV.av,dI,aH,bw hid,TO.av,zah,e2,if_true,zaQ,LK.av];rw [zad (by simp)]
  ·rename_i fl sz es hid;injection h with h;subst h
   have e2:s.ln id=es.length:=by unfold DS.ln kg;rw [hid];rfl
   simp only [TV.av,dI,aH,bw hid,TO.av,br,zah,e2,if_true,zaQ,LK.av];rw [zad (by simp)]
  ·cases h
 ·cases h
def wu (sz:Nat):List (List (TV G))->Bool
 | []=>true
 | e::r=>Nat.beq e.length sz&&(iB e&&wu sz r)
theorem td {g:Ge G} {ln:Nat->Nat} {sz:Nat}:∀ {es:List (List (TV G))},wu sz es=true->((TV.dc g ln es).all fun e=>e.length==sz&&aV e)=true
 | [],_=>rfl
 | e::r,h=>by
  simp only [wu,za0] at h;rw [TV.dc,List.all_cons,td h.2.2,ga g ln h.2.1,dH,za3 h.1];simp
theorem SW {g:Ge G} (hg:g.Ok) {t:Ty} (l:List (t.D G)):((l.map (enc g t)).all fun e=>e.length==t.n g&&aV e)=true:=by
 rw [List.all_map,zai];intro x _;simp [(c6 hg t).len,(c6 hg t).one]
def Og (g:Ge G) (s:DS G) (sz bytes:Nat) (x y:TV G) (c:TV G->DS G->Option R):Option R:=match x with
 | .own id=>(match s.H[id]?,E2 s.H y with
  | some (.aL fl t l),some (.ty u m)=>if h:u=t then (if fl.uf&&Nat.beq (t.n g) sz then (cF bytes l (h▸m)).bind fun v=>c (.own id) (s.ec id (.aL fl t v)) else none) else none
  | some (.aL fl t l),some (.raw es)=>if fl.uf&&Nat.beq (t.n g) sz then (match o6 g t es with
   | some m=>(cF bytes l m).bind fun v=>c (.own id) (s.ec id (.aL fl t v))
   | none=>(match o6 g t (es.map (List.map EI)) with
    | some m=>if wu sz es&&TV.je id es then (cF bytes l m).bind fun _=>c (.own id) (s.ec id (.mix fl t l es)) else none
    | none=>none)) else none
  | some (.cX fl sz' es),some (.ty t m)=>if fl.uf&&(Nat.beq (t.n g) sz&&Nat.beq sz' sz) then (match o6 g t es with
   | some l=>(cF bytes l m).bind fun v=>c (.own id) (s.ec id (.aL fl t v))
   | none=>none) else none
  | some (.cX fl sz' es),some (.raw es')=>if fl.uf&&(wu sz es'&&Nat.beq sz' sz) then (cF bytes es es').bind fun v=>if TV.je id v then c (.own id) (s.ec id (.cX fl sz v)) else none else none
  | _,_=>none)
 | _=>none
def ZY:List AV->Option ((t:Ty)×t.D G)
 | [.int k n]=>some ⟨.int k,n⟩
 | [.bool b]=>some ⟨.bool,b⟩
 | [.str l]=>some ⟨.str,l⟩
 | _=>none
theorem K3 {g:Ge G} {z:List AV} {p:(t:Ty)×t.D G} (h:ZY z=some p):z=enc g p.1 p.2/\z.length=1:=by
 unfold ZY at h;split at h<;>first | (injection h with h;subst h;exact ⟨rfl,rfl⟩) | cases h
def Kc:RX->RX->Bool
 | .t a,.t b=>Nat.beq a b
 | .c (.int k a),.c (.int j b)=>decide (k=j)&&decide (a=b)
 | _,_=>false
theorem L3 {x y:RX} (h:Kc x y=true):x=y:=by
 unfold Kc at h;split at h
 ·rw [za3 h]
 ·simp only [za0,decide_eq_true_eq] at h;rw [h.1,h.2]
 ·cases h
def SX (s:DS G) (pl sz:Nat) (z:List AV) (bytes:Nat) (n:TV G) (c:TV G->DS G->Option R):Option R:=match n with
 | .int .i64 n=>(match ZY z with
  | some p=>if Nat.beq sz 1 then (sj bytes n p.2).bind fun l=>if s.fits pl (.aL .norm p.1 l) then c (.own pl) (s.eE pl (.aL .norm p.1 l)) else none else none
  | none=>none)
 | _=>none
end
end oZ
