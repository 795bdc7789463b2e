/- Plain laws of chapter 32's models: CascadeBuilds and CascadeLines answer true. No condition. -/
import Derived.Test.YtafgdbaekppjcaaGreatDoorP32r
set_option linter.unusedSectionVars false
set_option linter.unusedVariables false
set_option linter.unusedSimpArgs false
namespace G33
open Go Go.Pl
set_option linter.unusedVariables false
set_option linter.unusedSimpArgs false
theorem size_one {e:SExpr} (h:e.Args=[]):Size 1 1 e:=by
 have:=Size.mk (d:=0) (e:=e) (fun _=>0) (by rw [h];decide) (fun k hk=>by rw [h] at hk;exact absurd hk (Nat.not_lt_zero _))
 rw [h] at this;exact this
theorem nest_one {e:SExpr} (h:e.Args=[]):Nest 1 e:= .mk (by rw [h];decide) (fun k hk=>by rw [h] at hk;exact absurd hk (Nat.not_lt_zero _))
theorem lit_line (n:Int):Lit (lineE n):=⟨1,1,size_one rfl,nest_one rfl,by decide,by decide⟩
theorem lit_no:Lit noE:=⟨1,1,size_one rfl,nest_one rfl,by decide,by decide⟩
def Lines (l:List SExpr):Prop:=∀ x∈l,∃ n,x=lineE n
theorem sum_one:∀ n:Nat,((List.range n).map fun _=>1).sum=n
 | 0=>rfl
 | n+1=>by rw [List.range_succ,List.map_append,List.sum_append,sum_one n];rfl
theorem lit_of (a:Int) {l:List SExpr} (h:Lines l) (hl:l.length≤200):Lit ⟨a,0,l⟩:=by
 refine ⟨2,1+l.length,?_,.mk (by show l.length < 1000;omega) (fun k hk=>?_),by decide,by omega⟩
 ·have:=Size.mk (d:=1) (e:=⟨a,0,l⟩) (fun _=>1) (by show l.length < 1000;omega) (fun k hk=>by
   obtain ⟨n,e⟩:=h _ (List.getElem_mem hk)
   rw [e]
   exact size_one rfl)
  rw [show (1+l.length:Nat)=1+((List.range (⟨a,0,l⟩:SExpr).Args.length).map (fun _=>1)).sum by rw [sum_one]]
  exact this
 ·obtain ⟨n,e⟩:=h _ (List.getElem_mem hk)
  rw [e]
  exact nest_one rfl
theorem lit_sev (a:Int) {l:List SExpr} (h:Lines l) (hl:l.length≤200):Lit (sev a l):=by
 unfold sev
 split
 ·rename_i x
  obtain ⟨n,rfl⟩:=h x (by simp)
  exact lit_line n
 ·exact lit_of a h hl
theorem lines_sw (l:List SStroke):Lines (l.map swE):=fun x hx=>by
 obtain ⟨y,_,rfl⟩:=List.mem_map.1 hx
 exact ⟨_,rfl⟩
theorem lines_app {l m:List SExpr} (h:Lines l) (h2:Lines m):Lines (l++m):=fun x hx=>by
 rcases List.mem_append.1 hx with hx | hx
 ·exact h x hx
 ·exact h2 x hx
theorem lines_one (n:Int):Lines [lineE n]:=fun x hx=>⟨n,by simpa using hx⟩
theorem lines_nil:Lines []:=fun x hx=>by cases hx
theorem lines_end (s:SSequence) (n:Int) (k:Nat):Lines (endE s n k):=by
 unfold endE
 split
 ·split
  ·exact lines_sw _
  ·exact lines_one _
 ·exact lines_nil
theorem lines_pil (s:SSequence) (M:List Int) (a:Int) (o:Bool):∀ k,Lines (pil s M a o k)
 | 0=>lines_nil
 | k+1=>by
  rw [pil]
  refine lines_app (lines_pil s M a o k) ?_
  split
  ·split
   ·exact lines_one _
   ·exact lines_nil
  ·exact lines_nil
theorem lines_more (s:SSequence) (k:Nat):Lines (more s k):=by
 unfold more
 split
 ·exact lines_one _
 ·split
  ·exact lines_end _ _ _
  ·exact lines_nil
theorem lines_cons {n:Int} {l:List SExpr} (h:Lines l):Lines (lineE n::l):=fun x hx=>by
 rcases List.mem_cons.1 hx with hx | hx
 ·exact ⟨n,hx⟩
 ·exact h x hx
theorem ctl_lit {s:SSequence} (h:Right s):∀ x∈(ctl s).Signals,Lit x.On∧Lit x.Off:=by
 intro x hx
 have hn:=h.n64
 rcases List.mem_append.1 (show x∈bas s++pils s (sts s s.Steps.length) s.Actuators.toNat from hx) with hx | hx
 ·rcases List.mem_append.1 (show x∈bas1 s++stSigs s s.Steps.length from hx) with hx | hx
  ·rcases List.mem_append.1 (show x∈lns s++clks s (bel s s.Steps.length) s.Steps.length from hx) with hx | hx
   ·unfold lns at hx
    split at hx
    ·have e0:=end_lenR h (tc s) (lst s 0)
     have e1:=end_lenR h (tc s) (lst s 1)
     unfold two at hx
     simp only [List.mem_cons,List.not_mem_nil,or_false] at hx
     rcases hx with rfl | rfl
     ·exact ⟨lit_sev 3 (lines_end s _ _) (by omega),lit_sev 3 (lines_end s _ _) (by omega)⟩
     ·exact ⟨lit_of 2 (lines_one _) (by simp),lit_no⟩
    ·obtain ⟨k,hk,rfl⟩:=List.mem_map.1 (show x∈(List.range (gnn s)).map (grSig s) from hx)
     have e0:=end_lenR h (tc s) (lst s ((k+gnn s - 1) % gnn s))
     exact ⟨lit_sev 3 (lines_cons (lines_end s _ _)) (by rw [List.length_cons];omega),lit_line _⟩
   ·obtain ⟨k,hk,hx⟩:=List.mem_flatMap.1 (show x∈(List.range s.Steps.length).flatMap (clkOf s (bel s s.Steps.length)) from hx)
    unfold clkOf at hx
    split at hx
    ·rename_i y m hy hm
     split at hx
     ·cases hx
     ·simp only [List.mem_cons,List.not_mem_nil,or_false] at hx
      subst hx
      obtain ⟨hk',rfl⟩:=List.getElem?_eq_some_iff.1 hy
      have:=(h.step k hk').ok.le
      exact ⟨lit_of 3 (lines_cons (lines_sw _)) (by simp;omega),lit_no⟩
    ·cases hx
  ·obtain ⟨k,hk,rfl⟩:=List.mem_map.1 (show x∈(List.range s.Steps.length).map (stSig s) from hx)
   have e0:=more_len h k
   exact ⟨lit_sev 3 (lines_cons (lines_more s k)) (by rw [List.length_cons];omega),lit_no⟩
 ·obtain ⟨a,ha,hx⟩:=List.mem_flatMap.1 (show x∈(List.range s.Actuators.toNat).flatMap (fun a=>[pilSig s (sts s s.Steps.length) a true,pilSig s (sts s s.Steps.length) a false]) from hx)
  have key:∀ o,Lit (pilSig s (sts s s.Steps.length) a o).On∧Lit (pilSig s (sts s s.Steps.length) a o).Off:=fun o=>
   ⟨lit_sev 4 (lines_pil s _ _ _ _) (by have:=pil_len s (sts s s.Steps.length) a o s.Steps.length;omega),lit_no⟩
  simp only [List.mem_cons,List.not_mem_nil,or_false] at hx
  rcases hx with rfl | rfl
  ·exact key true
  ·exact key false
theorem ctl_len {s:SSequence}:(ctl s).Signals.length=gnn s+tn s+s.Steps.length+2*s.Actuators.toNat:=by
 unfold ctl
 rw [List.length_append,bas_len,pils_len]
def noC:SControl:=⟨0,[],[],[],[]⟩
def built (s:SSequence):SControl×Int:=if err s≠0 then (noC,err s) else (ctl s,0)
theorem err_zero {s:SSequence} (he:err s=0):chk s=0∧gnn s+tn s+s.Steps.length+2*s.Actuators.toNat≤64:=by
 unfold err at he
 split at he
 ·rename_i h;exact absurd he h
 ·split at he
  ·omega
  ·omega
theorem m60_err {s:SSequence} (h:chk s≠0):m60 s=some (none,chk s):=by
 unfold m60
 rw [m81_eq]
 refine (bind_val rfl).trans ?_
 exact cond_t (by simpa using h)
theorem m60_all (s:SSequence):m60 s=some (if err s≠0 then (none,err s) else (some ⟨s,few s,gl s,tms s (tc s) s.Steps.length,sts s s.Steps.length,ctl s⟩,0)):=by
 by_cases hc:chk s=0
 ·rw [m60_eq hc]
  have hn:¬ chk s≠0:=fun h=>h hc
  unfold err
  simp only [if_neg hn]
  by_cases hb:64 < gnn s+tn s+s.Steps.length+2*s.Actuators.toNat
  ·simp only [if_pos hb,if_pos (show (5:Int)≠0 by decide)]
  ·simp only [if_neg hb,if_neg (show ¬ (0:Int)≠0 by decide)]
 ·rw [m60_err hc]
  unfold err
  simp only [if_pos hc]
theorem m26_eq (s:SSequence):m26 s=some (built s):=by
 unfold m26 built
 rw [m60_all]
 refine (bind_val rfl).trans ?_
 by_cases he:err s≠0
 ·simp only [if_pos he]
  exact cond_t (by simpa using he)
 ·simp only [if_neg he]
  rfl
theorem m27_eq (s:SSequence) (hs:Small s):m27 s=some (built s):=by
 unfold m27 built
 rw [m61_eq s hs]
 refine (bind_val rfl).trans ?_
 by_cases he:err s≠0
 ·simp only [if_pos he]
  exact cond_t (by simpa using he)
 ·simp only [if_neg he]
  rw [cond_f (by simpa using he),m62_eq (chk_right (err_zero (by omega)).1)]
  rfl
theorem built_same (s:SSequence):m14 (built s).1 (built s).1=some true:=by
 unfold built
 split
 ·exact m14_refl (by show (0:Nat) < _;decide) (by show (0:Nat) < _;decide) (by show (0:Nat) < _;decide) (by show (0:Nat) < _;decide) (fun x hx=>by cases hx)
 ·rename_i he
  obtain ⟨hc,hb⟩:=err_zero (s:=s) (by omega)
  have h:=chk_right hc
  have ha6:=h.a6
  have hl:=ctl_len (s:=s)
  have p0:=pm_len (s:=s) (d:=0) (k:=s.Actuators.toNat)
  have p1:=pm_len (s:=s) (d:=1) (k:=s.Actuators.toNat)
  exact m14_refl (by show (1:Nat) < 1000000;omega) (by show (ctl s).Signals.length < _;omega) (by show (pm s 0 _).length < _;omega) (by show (pm s 1 _).length < _;omega) (ctl_lit h)
theorem m10_some (s:SSequence):∃ b,m10 s=some b∧(b=true→Small s):=by
 unfold m10
 by_cases hs:s.Steps.length≤128
 ·rw [cond_f (by simp only [decide_eq_false_iff_not];omega)]
  rw [iter_list s.Steps (fun x=>bif decide ((x.Strokes.length:Int) > 40) then some false else none) ?hn () ?h0 ?h ?he]
  case hn=>unfold fuel;omega
  case h0=>rfl
  case he=>
   try dsimp only
   rw [cond_f (lt_f (by omega))]
  case h=>
   intro k hk
   try dsimp only
   rw [cond_t (lt_t (by omega)),idx_lt hk]
   simp only [Option.bind_some]
   rw [addI_nat (by omega)]
   cases decide ((s.Steps[k].Strokes.length:Int) > 40)<;>rfl
  cases hf:s.Steps.findSome? (fun x=>bif decide ((x.Strokes.length:Int) > 40) then some false else none) with
  | none=>
   refine ⟨true,rfl,fun _=>⟨by omega,fun x hx=>?_⟩⟩
   rw [List.findSome?_eq_none_iff] at hf
   have:=hf x hx
   cases hd:decide ((x.Strokes.length:Int) > 40) with
   | true=>rw [hd] at this;cases this
   | false=>rw [decide_eq_false_iff_not] at hd;omega
  | some r=>
   refine ⟨r,rfl,fun hr=>?_⟩
   obtain ⟨x,hx,hr2⟩:=List.exists_of_findSome?_eq_some hf
   cases hd:decide ((x.Strokes.length:Int) > 40) with
   | true=>rw [hd] at hr2;injection hr2 with hr2;rw [hr] at hr2;cases hr2
   | false=>rw [hd] at hr2;cases hr2
 ·exact ⟨false,by rw [cond_t (by simp only [decide_eq_true_eq];omega)],nofun⟩
theorem m25_run:m25=some true:=rfl
theorem plain6 (s:SSequence):m6 s=some true:=by
 obtain ⟨b,hb,hS⟩:=m10_some s
 unfold m6
 rw [hb]
 cases b with
 | false=>rfl
 | true=>
  simp only [Option.bind_some,Bool.not_true,cond_false]
  rw [m26_eq,m27_eq s (hS rfl)]
  simp only [Option.bind_some]
  rw [built_same s]
  simp only [Option.bind_some,cond_true]
  rw [cond_t (by simp),m25_run]
  rfl
def kna (d:Int) (l:List SSignal):Nat:=(l.filter fun x=>x.Kind==d).length
theorem kna_app (d:Int) (a b:List SSignal):kna d (a++b)=kna d a+kna d b:=by unfold kna;rw [List.filter_append,List.length_append]
theorem kna_all {d:Int} {l:List SSignal} (h:∀ x∈l,x.Kind=d):kna d l=l.length:=by
 unfold kna;rw [List.filter_eq_self.2 (fun x hx=>by simp [h x hx])]
theorem kna_no {d:Int} {l:List SSignal} (h:∀ x∈l,x.Kind≠d):kna d l=0:=by
 unfold kna;rw [List.filter_eq_nil_iff.2 (fun x hx=>by simp [h x hx])];rfl
def mem (s:SSequence):Nat:=if gnn s=2 then 1 else gnn s
theorem clks_kind (s:SSequence) (M:List Int) (k:Nat):∀ x∈clks s M k,x.Kind=2:=by
 intro x hx
 obtain ⟨j,hj,hx⟩:=List.mem_flatMap.1 hx
 unfold clkOf at hx
 split at hx
 ·split at hx
  ·cases hx
  ·simp only [List.mem_cons,List.not_mem_nil,or_false] at hx
   subst hx;rfl
 ·cases hx
theorem st_kind (s:SSequence) (k:Nat):∀ x∈stSigs s k,x.Kind=0:=by
 intro x hx
 obtain ⟨j,hj,rfl⟩:=List.mem_map.1 hx
 rfl
theorem pil_kind (s:SSequence) (M:List Int) (k:Nat):∀ x∈pils s M k,x.Kind=0:=by
 intro x hx
 obtain ⟨a,ha,hx⟩:=List.mem_flatMap.1 hx
 simp only [List.mem_cons,List.not_mem_nil,or_false] at hx
 rcases hx with rfl | rfl<;>rfl
theorem gr_kind (s:SSequence) (k:Nat):∀ x∈grSigs s k,x.Kind=1:=by
 intro x hx
 obtain ⟨j,hj,rfl⟩:=List.mem_map.1 hx
 rfl
theorem kinds (s:SSequence):kna 1 (ctl s).Signals=mem s∧kna 2 (ctl s).Signals=tn s:=by
 have e:(ctl s).Signals=lns s++clks s (bel s s.Steps.length) s.Steps.length++stSigs s s.Steps.length++pils s (sts s s.Steps.length) s.Actuators.toNat:=rfl
 rw [e]
 simp only [kna_app]
 have c1:kna 2 (clks s (bel s s.Steps.length) s.Steps.length)=tn s:=by
  rw [kna_all (clks_kind _ _ _),clks_cnt bel_len _ (Nat.le_refl _)];rfl
 have c2:kna 1 (clks s (bel s s.Steps.length) s.Steps.length)=0:=kna_no fun x hx=>by rw [clks_kind _ _ _ x hx];decide
 have c3:kna 2 (stSigs s s.Steps.length)=0:=kna_no fun x hx=>by rw [st_kind _ _ x hx];decide
 have c4:kna 1 (stSigs s s.Steps.length)=0:=kna_no fun x hx=>by rw [st_kind _ _ x hx];decide
 have c5:kna 2 (pils s (sts s s.Steps.length) s.Actuators.toNat)=0:=kna_no fun x hx=>by rw [pil_kind _ _ _ x hx];decide
 have c6:kna 1 (pils s (sts s s.Steps.length) s.Actuators.toNat)=0:=kna_no fun x hx=>by rw [pil_kind _ _ _ x hx];decide
 have c7:kna 1 (lns s)=mem s∧kna 2 (lns s)=0:=by
  unfold lns mem
  split
  ·exact ⟨rfl,rfl⟩
  ·exact ⟨by rw [kna_all (gr_kind _ _)];simp [grSigs],kna_no fun x hx=>by rw [gr_kind _ _ x hx];decide⟩
 rw [c1,c2,c3,c4,c5,c6,c7.1,c7.2]
 exact ⟨by omega,by omega⟩
end G33
