/- Parts of my machine and its laws, joined: DnK DnX. No condition. -/
import Derived.Test.YtafgdbaekppjcaaGreatDoorDnJ
set_option linter.unusedSectionVars false
set_option linter.unusedVariables false
set_option linter.unusedSimpArgs false
section
namespace Dnm
open Go hiding Obj mark
open Go.Pl Go.Am Go.Am.As
set_option linter.unusedVariables false
section
variable {G:Nat→Type} {R:Type}
def refsV:TV G→Option (List Nat)
 | .own i=>some [i]
 | .po i _=>some [i]
 | .pe i _ _=>some [i]
 | .pa i _ _ _=>some [i]
 | .sa ..=>none
 | .raw v=>some (refs v)
 | _=>some []
theorem refsV_ok {g:Ge G} {ln:Nat→Nat} {v:TV G} {l:List Nat} (h:refsV v=some l):refs (v.av g ln)=l:=by
 cases v with
 | sa=>cases h
 | olst t o=>cases o<;>exact Option.some.inj h
 | optr t o=>cases o<;>exact Option.some.inj h
 | _=>exact Option.some.inj h
def refssV:List (TV G)→Option (List Nat)
 | []=>some []
 | x::xs=>(match refsV x with
  | some a=>(match refssV xs with | some b=>some (a++b) | none=>none)
  | none=>none)
theorem refssV_ok {g:Ge G} {ln:Nat→Nat}:∀ {l:List (TV G)} {m:List Nat},refssV l=some m→(TV.avs g ln l).flatMap refs=m
 | [],m,h=>Option.some.inj h
 | x::l,m,h=>by
  rw [refssV] at h
  split at h
  case h_2=>cases h
  rename_i a ha
  split at h
  case h_2=>cases h
  rename_i b hb
  injection h with h;subst h
  rw [TV.avs,List.flatMap_cons,refsV_ok ha,refssV_ok hb]
def fpV (gl:Nat→List AV) (s:DS G) (pl:Nat):RO→Option FP
 | .load _ _ a=>(match refsV (s.rx gl a) with | some l=>some { r:=l } | none=>none)
 | .iadS _ x _=>(match refsV (s.rx gl x) with | some l=>some { r:=l } | none=>none)
 | .slc _ x _ _=>(match refsV (s.rx gl x) with | some l=>some { r:=l } | none=>none)
 | .box _=>some { w:=[pl] }
 | .alloc _=>some { w:=[pl] }
 | .bsl ..=>some { w:=[pl] }
 | .bslf ..=>some { w:=[pl] }
 | .mks ..=>some { w:=[pl] }
 | .store _ a _=>(match refsV (s.rx gl a) with | some l=>some { w:=l } | none=>none)
 | .app _ _ x y=>(match refsV (s.rx gl y) with
  | some l=>(match refsV (s.rx gl x) with | some m=>some { r:=l,w:=pl::m } | none=>none)
  | none=>none)
 | .appf _ _ x y=>(match refsV (s.rx gl y) with
  | some l=>(match refsV (s.rx gl x) with | some m=>some { r:=l,w:=pl::m } | none=>none)
  | none=>none)
 | .mkc _ args=>(match refssV (args.map (s.rx gl)) with | some l=>some { r:=l,w:=[pl] } | none=>none)
 | .call _ args=>(match refssV (args.map (s.rx gl)) with | some l=>some { r:=l } | none=>none)
 | .mov _=>some {}
 | .pick ..=>some {}
 | .build ..=>some {}
 | .bin ..=>some {}
 | .un ..=>some {}
 | .eqA ..=>some {}
 | .eqB ..=>some {}
 | .eqP ..=>some {}
 | .nchk _=>some {}
 | .conv ..=>some {}
 | .fld ..=>some {}
 | .fad ..=>some {}
 | .iadA ..=>some {}
 | .idxA ..=>some {}
 | .idxS ..=>some {}
 | .slcS ..=>some {}
 | .mkf ..=>some {}
 | .len ..=>some {}
 | .mn _=>some {}
 | .mx _=>some {}
 | .ext ..=>some {}
 | .i2s _=>some {}
 | _=>none
theorem fpV_ok {g:Ge G} {gl:Nat→List AV} {s:DS G} {pl:Nat} {op:RO} {fp:FP} (h:fpV gl s pl op=some fp):fpOfe (evT gl (s.tm g)) pl op=fp:=by
 have rx:=DS.rx_av g gl s
 cases op<;>first | exact Option.some.inj h | exact none_some h | skip
 all_goals
  unfold fpV at h
  dsimp only at h
 case mkc f args=>
  split at h
  case h_2=>cases h
  rename_i l hl
  injection h with h;subst h
  simp only [fpOfe,DS.rxs_av,refssV_ok hl]
 case call f args=>
  split at h
  case h_2=>cases h
  rename_i l hl
  injection h with h;subst h
  simp only [fpOfe,DS.rxs_av,refssV_ok hl]
 case app=>
  split at h
  case h_2=>cases h
  rename_i l hl
  split at h
  case h_2=>cases h
  rename_i m hm
  injection h with h;subst h
  simp only [fpOfe,rx,refsV_ok hl,refsV_ok hm]
 case appf=>
  split at h
  case h_2=>cases h
  rename_i l hl
  split at h
  case h_2=>cases h
  rename_i m hm
  injection h with h;subst h
  simp only [fpOfe,rx,refsV_ok hl,refsV_ok hm]
 all_goals
  split at h
  case h_2=>cases h
  rename_i l hl
  injection h with h;subst h
  simp only [fpOfe,rx,refsV_ok hl]
def lentO (H:List (TO G)):TV G→Bool
 | .own id=>(match H[id]? with
  | some (.lst ..)=>true
  | some (.raws _ _ es)=>freess es
  | _=>false)
 | _=>false
def lentV (H:List (TO G)) (v:TV G):Bool:=v.free||lentO H v
def lentsV (H:List (TO G)):List (TV G)→Bool
 | []=>true
 | x::xs=>lentV H x&&lentsV H xs
theorem lentO_ok {g:Ge G} (hg:g.Ok) {s:DS G} {v:TV G} (h:lentO s.H v=true):(lent1 (s.Hv g) (v.av g s.ln)).isSome=true:=by
 unfold lentO at h
 split at h
 case h_2=>cases h
 rename_i id
 split at h
 ·rename_i fl t l hid
  have hp:pkV s.H 6 (.own id)=some (.lst t l):=by
   show (if (TV.own id:TV G).free then some _ else match s.H[id]? with | _=>_)=_
   rw [show (TV.own id:TV G).free=false from rfl]
   simp only [Bool.false_eq_true,if_false,hid]
  have hk:=pkV_ok hg 6 hp
  unfold lent1
  rw [if_neg (by simp [TV.av,AV.bel])]
  show (match (s.Hv g)[id]? with | some (.live _ _ es)=>_ | _=>none).isSome=true
  rw [Hv_get hid]
  simp only [TO.av,List.drop_zero,setN_lst hid]
  rw [List.take_of_length_le (by simp),if_pos (belss_map (encOk hg t).bel l)]
  have hk':pk 6 (s.Hv g) (.own id l.length 0 l.length)=some (.ro (l.map (enc g t))):=by
   rw [show (TV.own id:TV G).av g s.ln= .own id (s.ln id) 0 (s.ln id) from rfl,setN_lst hid] at hk;exact hk
  rw [hk'];rfl
 ·rename_i fl sz es hid
  have e:s.ln id=es.length:=by unfold DS.ln lnH;rw [hid];rfl
  have hp:pkV s.H 6 (.own id)=some (.rol es):=by
   show (if (TV.own id:TV G).free then some _ else match s.H[id]? with | _=>_)=_
   rw [show (TV.own id:TV G).free=false from rfl]
   simp only [Bool.false_eq_true,if_false,hid,h,if_true]
  have hk:=pkV_ok hg 6 hp
  unfold lent1
  rw [if_neg (by simp [TV.av,AV.bel])]
  show (match (s.Hv g)[id]? with | some (.live _ _ es)=>_ | _=>none).isSome=true
  rw [Hv_get hid]
  have hle:(TV.avss g s.ln es).length=es.length:=by rw [avss_map,List.length_map]
  simp only [TO.av,List.drop_zero,e]
  rw [List.take_of_length_le (by rw [hle];exact Nat.le_refl _),if_pos (freess_bel hg s.ln es h)]
  rw [show (TV.own id:TV G).av g s.ln= .own id (s.ln id) 0 (s.ln id) from rfl,e] at hk
  rw [hk];rfl
 ·cases h
theorem lentV_ok {g:Ge G} (hg:g.Ok) {s:DS G} {v:TV G} (h:lentV s.H v=true):(lent1 (s.Hv g) (v.av g s.ln)).isSome=true:=by
 unfold lentV at h
 rcases (Bool.or_eq_true _ _).mp h with h | h
 ·unfold lent1
  rw [if_pos (free_bel hg _ v h)];rfl
 ·exact lentO_ok hg h
theorem lentsV_ok {g:Ge G} (hg:g.Ok) {s:DS G}:∀ {l:List (TV G)},lentsV s.H l=true→lentOk (s.Hv g) (TV.avs g s.ln l)=true
 | [],_=>rfl
 | x::l,h=>by
  rw [lentsV,Bool.and_eq_true] at h
  have h1:=lentV_ok hg h.1
  have h2:=lentsV_ok hg h.2
  unfold lentOk at h2 ⊢
  rw [TV.avs,lents]
  cases ha:lent1 (s.Hv g) (x.av g s.ln) with
  | none=>rw [ha] at h1;cases h1
  | some a=>cases hb:lents (s.Hv g) (TV.avs g s.ln l) with
   | none=>rw [hb] at h2;cases h2
   | some b=>rfl
def frzW (w:List Nat) (v:TV G) (s:DS G) (c:TV G→DS G→Option R):Option R:=match v with
 | .own id=>if memN id w then (match s.H[id]? with
  | some (.lst fl t l)=>if fl.free then c (.lst t l) (s.setO id .dead) else none
  | some (.raws fl sz es)=>if fl.free&&(freess es&&indepss es) then c (.rol es) (s.setO id .dead) else none
  | _=>none) else none
 | _=>none
theorem memN_mem {x:Nat}:∀ {l:List Nat},memN x l=true→x∈l
 | y::l,h=>by
  rw [memN,Bool.or_eq_true] at h
  rcases h with h | h
  ·rw [Nat.eq_of_beq_eq_true h];exact List.mem_cons_self ..
  ·exact List.mem_cons_of_mem _ (memN_mem h)
theorem frzW_ok {g:Ge G} (hg:g.Ok) {w:List Nat} {v:TV G} {s:DS G} {c:TV G→DS G→Option R} {r:R} (h:frzW w v s c=some r):EvOk g s (frzRes w (some (v.av g s.ln,s.Hv g))) c r:=by
 unfold frzW at h
 split at h
 case h_2=>cases h
 rename_i id
 split at h
 case isFalse=>cases h
 rename_i hm
 have hw:((refs ((TV.own id:TV G).av g s.ln)).all fun i=>w.contains i)=true:=by
  simp [TV.av,refs,memN_mem hm]
 have fin:∀ {o:TO G} {v':TV G} {fl:Fl} {sz:Nat} {es:List (List AV)},s.H[id]?=some o→o.av g s.ln (s.FR g)= .live fl sz es→o.len=es.length→AV.belss 0 es=true→fl.free=true→v'.av g (s.setO id .dead).ln= .ro es→c v' (s.setO id .dead)=some r→EvOk g s (frzRes w (some ((TV.own id:TV G).av g s.ln,s.Hv g))) c r:=by
  intro o v' fl sz es hid h1 h2 h3 h4 h5 h6
  obtain ⟨k1,k2,k3,k4⟩:=setO_ok (g:=g) (o':= .dead) hid
  have e:s.ln id=es.length:=by unfold DS.ln lnH;rw [hid];exact h2
  have hH:(s.Hv g)[id]?=some (.live fl sz es):=by rw [Hv_get hid,h1]
  refine ⟨v',_,?_,k2,k3,h6⟩
  unfold frzRes
  dsimp only
  rw [if_pos hw]
  have hf:frz1 0 ⟨[(TV.own id:TV G).av g s.ln],s.Hv g⟩=some ⟨[.ro es],(s.Hv g).set id .dead⟩:=by
   unfold frz1
   rw [show (TV.own id:TV G).av g s.ln= .own id (s.ln id) 0 (s.ln id) from rfl,e]
   show (match getLive (s.Hv g) id with | some (_,es')=>_ | none=>none)=_
   simp only [getLive,hH,List.drop_zero,nlAt]
   rw [List.take_of_length_le (Nat.le_refl _),if_pos ⟨trivial,h3,h4⟩];rfl
  rw [hf]
  dsimp only
  rw [k4,h5];rfl
 split at h
 ·rename_i fl t l hid
  split at h
  case isFalse=>cases h
  rename_i hf
  exact fin hid rfl (by simp [TO.len]) (belss_map (encOk hg t).bel l) hf rfl h
 ·rename_i fl sz es hid
  split at h
  case isFalse=>cases h
  rename_i hf
  simp only [Bool.and_eq_true] at hf
  refine fin hid rfl (by simp [TO.len,avss_map]) (freess_bel hg s.ln es hf.2.1) hf.1 ?_ h
  show AV.ro _=AV.ro _
  rw [indepss_av es hf.2.2]
 ·cases h
structure ConM (G:Nat→Type) where
 f:Nat
 args:List Sh
 ts:List Ty
 t:Ty
 m:DL G ts→Option (List (t.D G))
def ConM.vs (g:Ge G) (c:ConM G) (x:DL G c.ts):List (TV G):=rebA g c.args (viewDL g c.ts x)
def ConM.Ok (E:Env) (hp:Nat→Bool) (g:Ge G) (c:ConM G):Prop:=∀ x l,c.m x=some l→l≠[]→∃ n,cIT E.fns (execT E hp n) c.f (.pown 0 0 0 0::TV.avs g (fun _=>0) (c.vs g x))=some (.tup [.pown 0 0 (c.t.n g) 0,.ro (l.map (enc g c.t))])
def conMFind (g:Ge G) (f:Nat) (ys:List (TV G)):List (ConM G)→Option ((c:ConM G)×DL G c.ts)
 | []=>none
 | c::r=>if Nat.beq c.f f then (match collA g c.args ys with
  | some l=>(match mkDL g c.ts l with
   | some x=>some ⟨c,x⟩
   | none=>conMFind g f ys r)
  | none=>conMFind g f ys r) else conMFind g f ys r
theorem conMFind_ok {g:Ge G} (hg:g.Ok) {f:Nat} {ys:List (TV G)} {ln:Nat→Nat}:∀ {C:List (ConM G)} {p:(c:ConM G)×DL G c.ts},conMFind g f ys C=some p→p.1∈C∧p.1.f=f∧TV.avs g ln (p.1.vs g p.2)=TV.avs g ln ys
 | [],p,h=>by cases h
 | c::r,p,h=>by
  have tl:conMFind g f ys r=some p→p.1∈c::r∧p.1.f=f∧TV.avs g ln (p.1.vs g p.2)=TV.avs g ln ys:=fun h=>by
   obtain ⟨h1,h2⟩:=conMFind_ok hg h
   exact ⟨List.mem_cons_of_mem _ h1,h2⟩
  rw [conMFind] at h
  split at h
  case isFalse=>exact tl h
  rename_i hf
  split at h
  case h_2=>exact tl h
  rename_i l hl
  split at h
  case h_2=>exact tl h
  rename_i x hx
  injection h with h;subst h
  exact ⟨List.mem_cons_self ..,Nat.eq_of_beq_eq_true hf,collA_ok hl (by rw [viewDL_av hg,mkDL_ok hg ln _ _ _ hx])⟩
def dopW (X:Cx G) (CM:List (ConM G)) (rec:Rec G) (pl:Nat) (s:DS G) (op:RO) (k:TV G→DS G→Option R):Option R:=match op with
 | .call f args=>if lentsV s.H (args.map (s.rx X.gl)) then
  (match pkmV (pkV s.H 6) (args.map (s.rx X.gl)) with
   | some ys=>(match conFind X.g f ys X.C with
    | some p=>dcon X s (args.map (s.rx X.gl)) p k
    | none=>none)
   | none=>none) else none
 | .mkc f args=>if TV.frees (args.map (s.rx X.gl)) then
  (match conMFind X.g f (args.map (s.rx X.gl)) CM with
   | some p=>if indeps (p.1.vs X.g p.2) then (p.1.m p.2).bind fun l=>(nonE l).bind fun _=>if s.fits pl (.lst .norm p.1.t l) then k (.own pl) (s.newO pl (.lst .norm p.1.t l)) else none else none
   | none=>none) else none
 | .appf sz by' x y=>(match refsV (s.rx X.gl x) with
  | some w=>appV X.g s sz by' (s.rx X.gl x) (s.rx X.gl y) fun v s'=>frzW (pl::w) v s' k
  | none=>none)
 | .bslf sz z len parts=>bslV X.g s pl sz z len (parts.map fun p=>(p.1,s.rx X.gl p.2)) fun v s'=>frzW [pl] v s' k
 | .callv _ _=>none
 | op=>ev X.g X.gl s pl op k
def plOkV (H:List (TO G)) (pl:Nat) (op:RO):Bool:= !op.isAlloc||(match H[pl]? with | some .rsv=>true | _=>false)
def ddW (X:Cx G) (CM:List (ConM G)) (rec:Rec G) (b0:Nat):List (Nat×ROp)→DS G→(DS G→List FP→Option R)→Option R
 | [],s,k=>k s []
 | o::os,s,k=>(match o.2.guard with
  | none=>(match fpV X.gl s (b0+o.1) o.2.op with
   | some fp=>if plOkV s.H (b0+o.1) o.2.op then dopW X CM rec (b0+o.1) s o.2.op fun v s'=>ddW X CM rec b0 os (s'.putD o.2.dst v) fun s'' fs=>k s'' (fp::fs) else none
   | none=>none)
  | some _=>none)
theorem WD_step {E:Env} {hp:Nat→Bool} {t:T} {H:List Obj} {b0 k n:Nat} {o:ROp} {os:List (Nat×ROp)} {v:AV} {H1:List Obj} {f:FP} {K:T→List Obj→List FP→Prop} (h:actDT E.glob (cIT E.fns (execT E hp n)) (b0+k) o t H=some (v,H1,f))
 (hk:WD E hp b0 os (putD t o.dst v) H1 (fun t' H' fs=>K t' H' (f::fs))):WD E hp b0 ((k,o)::os) t H K:=by
 obtain ⟨m,t',H',fs,h1,h2⟩:=hk
 refine ⟨max n m,t',H',f::fs,?_,h2⟩
 rw [runDT,actDT_le (cIT_mono E.fns (execT_mono (Nat.le_max_left n m))) h]
 simp only [frc_eq]
 rw [runDT_le (cIT_mono E.fns (execT_mono (Nat.le_max_right n m))) os h1]
theorem EvOk.trans {g:Ge G} {s s1:DS G} {m:Option (AV×List Obj)} {c:TV G→DS G→Option R} {r:R} (h1:s1.tm g=s.tm g) (h2:s1.FR g=s.FR g) (h:EvOk g s1 m c r):EvOk g s m c r:=by
 obtain ⟨w,s',e1,e2,e3,e4⟩:=h
 exact ⟨w,s',e1,by rw [e2,h1],by rw [e3,h2],e4⟩
theorem dopW_ok {X:Cx G} {E:Env} (hX:X.Ok E) {CM:List (ConM G)} (hM:∀ c∈CM,c.Ok E X.hp X.g) {rec:Rec G} {pl:Nat} {s:DS G} {op:RO} {k:TV G→DS G→Option R} {r:R} (h:dopW X CM rec pl s op k=some r):
 ∃ n,EvOk X.g s (evalDe (evT E.glob (s.tm X.g)) (cIT E.fns (execT E X.hp n)) pl op (s.Hv X.g)) k r:=by
 have plain:∀ {op:RO},(∀ f a,op≠ .call f a)→(∀ f a,op≠ .mkc f a)→(∀ a b c d,op≠ .appf a b c d)→(∀ a b c d,op≠ .bslf a b c d)→ev X.g X.gl s pl op k=some r→∃ n,EvOk X.g s (evalDe (evT E.glob (s.tm X.g)) (cIT E.fns (execT E X.hp n)) pl op (s.Hv X.g)) k r:=by
  intro op n1 n2 n3 n4 h
  obtain ⟨h1,h2⟩:=ev_ok hX.g h
  rw [hX.gl] at h2
  refine ⟨0,?_⟩
  have:evalDe (evT E.glob (s.tm X.g)) (cIT E.fns (execT E X.hp 0)) pl op (s.Hv X.g)=ev1 (evT E.glob (s.tm X.g)) pl op (s.Hv X.g):=by
   unfold evalDe
   split
   ·exact (n2 _ _ rfl).elim
   ·exact (n3 _ _ _ _ rfl).elim
   ·exact (n4 _ _ _ _ rfl).elim
   ·exact (n1 _ _ rfl).elim
   ·exact ev1_eq h1
  rw [this];exact h2
 unfold dopW at h
 split at h
 ·rename_i f args
  split at h
  case isFalse=>cases h
  rename_i hl
  split at h
  case h_2=>cases h
  rename_i ys hys
  split at h
  case h_2=>cases h
  rename_i p hp
  obtain ⟨n,v,H',h1,h2⟩:=dcon_ok hX (dr:=true) (.inl rfl) hys hp h
  obtain ⟨w,s',e1,e2,e3,e4,e5⟩:=h2
  refine ⟨n,w,s',?_,e3,e4,e5⟩
  unfold evalDe
  dsimp only
  have hl':=lentsV_ok hX.g hl
  rw [hX.gl,←DS.rxs_av] at hl' h1
  rw [if_pos hl']
  simp only [evalOpe,RO.kind]
  rw [show doCall (fun _=>false) (cIT E.fns (execT E X.hp n)) (fun _ _ _=>none) f (args.map (evT E.glob (s.tm X.g))) (s.Hv X.g)=some (v,H') from h1,e1,e2]
 ·rename_i f args
  split at h
  case isFalse=>cases h
  rename_i hfr
  split at h
  case h_2=>cases h
  rename_i p hp
  split at h
  case isFalse=>cases h
  rename_i hi
  obtain ⟨l,h1,h2⟩:=bind_some h
  obtain ⟨_,h3,h4⟩:=bind_some h2
  split at h4
  case isFalse=>cases h4
  rename_i hf
  obtain ⟨e1,e2,e3⟩:=conMFind_ok hX.g (ln:=s.ln) hp
  have hne:l≠[]:=by rintro rfl;cases h3
  obtain ⟨n,hn⟩:=hM _ e1 _ _ h1 hne
  rw [e2,indeps_av (ln':=s.ln) _ hi,e3] at hn
  obtain ⟨k1,k2,k3⟩:=newO_ok (g:=X.g) hf
  refine ⟨n,_,_,?_,k1,k2,h4⟩
  have hb:=frees_bel hX.g s.ln _ hfr
  unfold evalDe
  dsimp only
  unfold mkObj
  rw [hX.gl,←DS.rxs_av] at hn hb
  rw [lents_free hb]
  dsimp only
  rw [hn]
  show (if _ then mkPut pl (s.Hv X.g) (p.1.t.n X.g) (.ro (l.map (enc X.g p.1.t))) else none)=_
  rw [if_pos (by rw [hb];rfl),k3]
  show some (AV.own pl (l.map (enc X.g p.1.t)).length 0 (l.map (enc X.g p.1.t)).length,_)=some (AV.own pl (DS.ln _ pl) 0 (DS.ln _ pl),_)
  rw [newO_self (fits_le hf)]
  simp [TO.len,TO.av]
 ·rename_i sz by' x y
  split at h
  case h_2=>cases h
  rename_i w hw
  obtain ⟨v,s',e1,e2,e3,e4⟩:=appV_ok (pl:=pl) hX.g h
  refine ⟨0,?_⟩
  have:=frzW_ok hX.g e4
  unfold evalDe
  dsimp only
  show EvOk X.g s (frzRes _ (Am.append (s.Hv X.g) pl sz by' (evT E.glob (s.tm X.g) x) (evT E.glob (s.tm X.g) y))) k r
  rw [DS.rx_av X.g E.glob s x,DS.rx_av X.g E.glob s y,←hX.gl,e1,refsV_ok hw]
  exact this.trans e2 e3
 ·rename_i sz z len parts
  obtain ⟨v,s',e1,e2,e3,e4⟩:=bslV_ok (g:=X.g) hX.g h
  refine ⟨0,?_⟩
  have:=frzW_ok hX.g e4
  unfold evalDe
  dsimp only
  rw [List.map_map] at e1
  have:evalWe (evT E.glob (s.tm X.g)) (s.Hv X.g) pl (.bsl sz z len parts)=some (v.av X.g s'.ln,s'.Hv X.g):=by
   rw [←hX.gl]
   simp only [evalWe,DS.rx_av X.g X.gl s];exact e1
  rw [this]
  exact (frzW_ok hX.g e4).trans e2 e3
 ·cases h
 ·rename_i n1 n2 n3 n4 n5
  exact plain (fun f a e=>n1 f a e) (fun f a e=>n2 f a e) (fun a b c d e=>n3 a b c d e) (fun a b c d e=>n4 a b c d e) h
theorem ddW_ok {X:Cx G} {E:Env} (hX:X.Ok E) {CM:List (ConM G)} (hM:∀ c∈CM,c.Ok E X.hp X.g) {rec:Rec G} {b0:Nat} {r:R} {Q:T→List Obj→List FP→Prop}:∀ (os:List (Nat×ROp)) {s:DS G} {k:DS G→List FP→Option R},
 ddW X CM rec b0 os s k=some r→(∀ s' fs,s'.FR X.g=s.FR X.g→k s' fs=some r→Q (s'.tm X.g) (s'.Hv X.g) fs)→WD E X.hp b0 os (s.tm X.g) (s.Hv X.g) Q
 | [],s,k,h,hk=>WD_nil (hk s [] rfl h)
 | o::os,s,k,h,hk=>by
  obtain ⟨p,d,gd,op⟩:=o
  rw [ddW] at h
  dsimp only at h
  split at h
  case h_2=>cases h
  split at h
  case h_2=>cases h
  rename_i fp hfp
  split at h
  case isFalse=>cases h
  rename_i hpl
  obtain ⟨n,w,s',e1,e2,e3,e4⟩:=dopW_ok hX hM h
  have hfp':=fpV_ok (g:=X.g) hfp
  rw [hX.gl] at hfp'
  have hpl':plOk (s.Hv X.g) (b0+p) op=true:=by
   unfold plOkV at hpl
   unfold plOk
   rcases (Bool.or_eq_true _ _).mp hpl with h | h
   ·rw [h];rfl
   ·split at h
    ·rename_i hr
     rw [Hv_get hr]
     exact (Bool.or_eq_true _ _).mpr (.inr rfl)
    ·cases h
  refine WD_step (n:=n) (v:=w.av X.g s'.ln) (H1:=s'.Hv X.g) (f:=fp) ?_ ?_
  ·simp only [actDT,wantT]
   rw [if_pos hpl',e1]
   dsimp only
   rw [hfp']
  ·have:=ddW_ok hX hM os (Q:=fun t' H' fs=>Q t' H' (fp::fs)) e4 (fun s'' fs h1 h2=>hk s'' (fp::fs) (by rw [h1,DS.putD_FR,e3]) h2)
   rw [DS.putD_tm,DS.putD_Hv,e2] at this
   exact this
end
end Dnm
end
section
namespace Dnm
open Go hiding Obj mark
open Go.Pl Go.Am Go.Am.As
set_option linter.unusedVariables false
set_option linter.unusedSimpArgs false
section
variable {G:Nat→Type} {R:Type}
def eqG (ln ln':Nat→Nat) (v w:TV G) (k:Option R):Option R:=match v,w with
 | .own a,.own b=>if Nat.beq a b then (if ln a=ln' a then k else none) else none
 | .po a o,.po b q=>if Nat.beq a b&&Nat.beq o q then k else none
 | .int kd n,.int kd' m=>if kd=kd' then (if n=m then k else none) else none
 | .bool x,.bool y=>if x=y then k else none
 | .pe a i o,.pe b j q=>if Nat.beq a b&&Nat.beq o q then (if i=j then (if ln a=ln' a then k else none) else none) else none
 | _,_=>none
theorem eqG_ok {g:Ge G} {ln ln':Nat→Nat} {v w:TV G} {k:Option R} {r:R} (h:eqG ln ln' v w k=some r):(v.av g ln=w.av g ln'∧AV.same (v.av g ln) (v.av g ln)=true)∧k=some r:=by
 have nb:∀ n:Nat,Nat.beq n n=true:=fun n=>Nat.beq_refl n
 cases v<;>cases w<;>simp only [eqG] at h<;>try cases h
 case int.int kd n kd' m=>
  split at h
  case isFalse=>cases h
  rename_i e1
  split at h
  case isFalse=>cases h
  rename_i e2
  subst e1;subst e2
  exact ⟨⟨rfl,by show (decide _&&decide _)=true;simp⟩,h⟩
 case bool.bool x y=>
  split at h
  case isFalse=>cases h
  rename_i e
  subst e
  exact ⟨⟨rfl,by show (x==x)=true;simp⟩,h⟩
 case po.po a o b q=>
  split at h
  case isFalse=>cases h
  rename_i e
  rw [Bool.and_eq_true] at e
  have e1:=Nat.eq_of_beq_eq_true e.1
  have e2:=Nat.eq_of_beq_eq_true e.2
  subst e1;subst e2
  exact ⟨⟨rfl,by show (Nat.beq _ _&&Nat.beq _ _&&Nat.beq _ _&&Nat.beq _ _)=true;simp only [nb,Bool.and_self]⟩,h⟩
 case pe.pe a i o b j q=>
  split at h
  case isFalse=>cases h
  rename_i e
  rw [Bool.and_eq_true] at e
  have e1:=Nat.eq_of_beq_eq_true e.1
  have e2:=Nat.eq_of_beq_eq_true e.2
  subst e1;subst e2
  split at h
  case isFalse=>cases h
  rename_i e3
  subst e3
  split at h
  case isFalse=>cases h
  rename_i e4
  refine ⟨⟨?_,by show (Nat.beq _ _&&Nat.beq _ _&&Nat.beq _ _&&Nat.beq _ _)=true;simp only [nb,Bool.and_self]⟩,h⟩
  show AV.pown a (ln a) i.toNat o=AV.pown a (ln' a) i.toNat o
  rw [e4]
 case own.own a b=>
  split at h
  case isFalse=>cases h
  rename_i e
  have e1:=Nat.eq_of_beq_eq_true e
  subst e1
  split at h
  case isFalse=>cases h
  rename_i e2
  refine ⟨⟨?_,by show (Nat.beq _ _&&Nat.beq _ _&&Nat.beq _ _&&Nat.beq _ _)=true;simp only [nb,Bool.and_self]⟩,h⟩
  show AV.own a (ln a) 0 (ln a)=AV.own a (ln' a) 0 (ln' a)
  rw [e2]
structure Rd (G:Nat→Type) where
 i:Nat
 op:RO
 s:DS G
def flatO:TV G→Bool
 | .int _ _ | .bool _ | .str _ | .lst _ _ | .raw _=>true
 | _=>false
def flatsO:List (TV G)→Bool
 | []=>true
 | x::l=>flatO x&&flatsO l
theorem flatsO_ok {g:Ge G} {ln ln':Nat→Nat}:∀ {l:List (TV G)},flatsO l=true→TV.avs g ln l=TV.avs g ln' l
 | [],_=>rfl
 | x::l,h=>by
  rw [flatsO,Bool.and_eq_true] at h
  have e:x.av g ln=x.av g ln':=by
   have h1:=h.1
   cases x<;>first | rfl | cases h1
  rw [TV.avs,TV.avs,e,flatsO_ok h.2]
def sameO (ln ln':Nat→Nat) (v:TV G) (k:Option R):Option R:=match v with
 | .po _ _=>k
 | .int _ _=>k
 | .own a=>if ln a=ln' a then k else none
 | .pe a _ _=>if ln a=ln' a then k else none
 | .pro l=>if flatsO l then k else none
 | _=>none
theorem sameO_ok {g:Ge G} {ln ln':Nat→Nat} {v:TV G} {k:Option R} {r:R} (h:sameO ln ln' v k=some r):v.av g ln=v.av g ln'∧k=some r:=by
 cases v<;>simp only [sameO] at h<;>try cases h
 case int=>exact ⟨rfl,rfl⟩
 case po=>exact ⟨rfl,rfl⟩
 case own a=>
  split at h
  case isFalse=>cases h
  rename_i e
  exact ⟨by show AV.own a (ln a) 0 (ln a)=AV.own a (ln' a) 0 (ln' a);rw [e],h⟩
 case pro l=>
  split at h
  case isFalse=>cases h
  rename_i e
  exact ⟨by show AV.pro (TV.avs g ln l)=AV.pro (TV.avs g ln' l);rw [flatsO_ok e],h⟩
 case pe a i o=>
  split at h
  case isFalse=>cases h
  rename_i e
  exact ⟨by show AV.pown a (ln a) i.toNat o=AV.pown a (ln' a) i.toNat o;rw [e],h⟩
def rdV (X:Cx G) (q:Rd G) (s':DS G) (c:TV G→Option R):Option R:=match q.op with
 | .load n ag x=>sameO q.s.ln s'.ln (q.s.rx X.gl x) (loadV X.g s'.H n ag (q.s.rx X.gl x) c)
 | .iadS sz x i=>sameO q.s.ln s'.ln (q.s.rx X.gl x) (sameO q.s.ln s'.ln (q.s.rx X.gl i) (iadSV X.g s'.H sz (q.s.rx X.gl x) (q.s.rx X.gl i) c))
 | _=>none
theorem rdV_ok {X:Cx G} (hg:X.g.Ok) {q:Rd G} {s':DS G} {c:TV G→Option R} {r:R} (h:rdV X q s' c=some r):∃ w:TV G,evalRe (evT X.gl (q.s.tm X.g)) (s'.Hv X.g) q.op=some (w.av X.g s'.ln)∧c w=some r:=by
 have rx:=DS.rx_av X.g X.gl q.s
 unfold rdV at h
 split at h
 ·rename_i n ag x e
  obtain ⟨e1,h⟩:=sameO_ok (g:=X.g) h
  obtain ⟨w,h1,h2⟩:=loadV_ok hg h
  exact ⟨w,by rw [e];simp only [evalRe,rx];rw [e1];exact h1,h2⟩
 ·rename_i sz x i e
  obtain ⟨e1,h⟩:=sameO_ok (g:=X.g) h
  obtain ⟨e2,h⟩:=sameO_ok (g:=X.g) h
  obtain ⟨w,h1,h2⟩:=iadSV_ok hg h
  exact ⟨w,by rw [e];simp only [evalRe,rx];rw [e1,e2];exact h1,h2⟩
 ·cases h
def chkD (X:Cx G) (q:Rd G) (sp sq:DS G) (k:Option R):Option R:=
 rdV X q q.s fun v=>rdV X q sp fun w=>eqG q.s.ln sp.ln v w (rdV X q sq fun w2=>eqG q.s.ln sq.ln v w2 k)
theorem chkD_ok {X:Cx G} (hg:X.g.Ok) {q:Rd G} {sp sq:DS G} {k:Option R} {r:R} (h:chkD X q sp sq k=some r):
 (∃ v,AV.same v v=true∧evalRe (evT X.gl (q.s.tm X.g)) (q.s.Hv X.g) q.op=some v∧evalRe (evT X.gl (q.s.tm X.g)) (sp.Hv X.g) q.op=some v∧evalRe (evT X.gl (q.s.tm X.g)) (sq.Hv X.g) q.op=some v)∧k=some r:=by
 unfold chkD at h
 obtain ⟨v,h1,h⟩:=rdV_ok hg h
 obtain ⟨w,h2,h⟩:=rdV_ok hg h
 obtain ⟨⟨e1,es⟩,h⟩:=eqG_ok (g:=X.g) h
 obtain ⟨w2,h3,h⟩:=rdV_ok hg h
 obtain ⟨⟨e2,_⟩,h⟩:=eqG_ok (g:=X.g) h
 exact ⟨⟨_,es,h1,by rw [h2,e1],by rw [h3,e2]⟩,h⟩
def chkRs (X:Cx G) (bf:List Nat) (j:Nat) (sp sq:DS G):List (Rd G)→Option R→Option R
 | [],k=>k
 | q::rs,k=>if bit bf j q.i then chkRs X bf j sp sq rs k else chkD X q sp sq (chkRs X bf j sp sq rs k)
def chkHs (X:Cx G) (bf:List Nat) (q:Rd G):List (Nat×DS G×DS G)→Option R→Option R
 | [],k=>k
 | (j,sp,sq)::hs,k=>if bit bf q.i j then chkHs X bf q hs k else chkD X q sp sq (chkHs X bf q hs k)
def dX (X:Cx G) (rec:Rec G) (bf:List Nat):List ROp→Nat→An→List (Rd G)→List (Nat×DS G×DS G)→DS G→(DS G→Option R)→Option R
 | [],_,_,_,_,s,k=>k s
 | o::os,i,a,rs,hs,s,k=>match o.guard with
  | some _=>none
  | none=>(match o.op.kind with
   | .pure=>dop1 X rec false (a.op i) o.dst o.op s fun s'=>dX X rec bf os (i+1) a rs hs s' k
   | .read=>dop1 X rec false (a.op i) o.dst o.op s fun s'=>chkHs X bf ⟨i,o.op,s⟩ hs (dX X rec bf os (i+1) a (⟨i,o.op,s⟩::rs) hs s' k)
   | _=>dop1 X rec false (a.op i) o.dst o.op s fun s'=>chkRs X bf i s s' rs (dX X rec bf os (i+1) a rs ((i,s,s')::hs) s' k))
def RdA (X:Cx G) (q:Rd G) (p:Nat×(List Obj→Option AV)×AV):Prop:=p.1=q.i∧(∀ A,p.2.1 A=evalRe (evT X.gl (q.s.tm X.g)) A q.op)∧p.2.1 (q.s.Hv X.g)=some p.2.2
def HsA (X:Cx G) (hs:List (Nat×DS G×DS G)):List (Nat×List Obj×List Obj):=hs.map fun h=>(h.1,h.2.1.Hv X.g,h.2.2.Hv X.g)
inductive RsA (X:Cx G):List (Rd G)→List (Nat×(List Obj→Option AV)×AV)→Prop
 | nil:RsA X [] []
 | cons {q:Rd G} {p:Nat×(List Obj→Option AV)×AV} {rs ps} (h:RdA X q p) (t:RsA X rs ps):RsA X (q::rs) (p::ps)
theorem chk_one {X:Cx G} (hg:X.g.Ok) {q:Rd G} {p:Nat×(List Obj→Option AV)×AV} (hq:RdA X q p) {sp sq:DS G} {k:Option R} {r:R} (h:chkD X q sp sq k=some r):
 (chkR p.2.1 p.2.2 (sp.Hv X.g)&&chkR p.2.1 p.2.2 (sq.Hv X.g))=true∧k=some r:=by
 obtain ⟨⟨v,hs,h1,h2,h3⟩,hk⟩:=chkD_ok hg h
 obtain ⟨_,e,ev⟩:=hq
 rw [e,h1] at ev
 injection ev with ev
 refine ⟨?_,hk⟩
 unfold chkR
 rw [e,e,h2,h3,←ev]
 simp only [hs,Bool.and_self]
theorem chkRs_ok {X:Cx G} (hg:X.g.Ok) {bf:List Nat} {j:Nat} {sp sq:DS G}:∀ {rs:List (Rd G)} {ps:List (Nat×(List Obj→Option AV)×AV)} {k:Option R} {r:R},RsA X rs ps→chkRs X bf j sp sq rs k=some r→
 (ps.all fun p=>bit bf j p.1||(chkR p.2.1 p.2.2 (sp.Hv X.g)&&chkR p.2.1 p.2.2 (sq.Hv X.g)))=true∧k=some r
 | _,_,k,r,.nil,h=>⟨rfl,h⟩
 | q::rs,p::ps,k,r,.cons hq ht,h=>by
  rw [chkRs] at h
  rw [List.all_cons]
  split at h
  ·rename_i hb
   obtain ⟨h1,h2⟩:=chkRs_ok hg ht h
   rw [←hq.1] at hb
   rw [hb,h1];exact ⟨rfl,h2⟩
  ·obtain ⟨h0,h⟩:=chk_one hg hq h
   obtain ⟨h1,h2⟩:=chkRs_ok hg ht h
   rw [h0,h1,Bool.or_true];exact ⟨rfl,h2⟩
theorem chkHs_ok {X:Cx G} (hg:X.g.Ok) {bf:List Nat} {q:Rd G} {p:Nat×(List Obj→Option AV)×AV} (hq:RdA X q p):∀ {hs:List (Nat×DS G×DS G)} {k:Option R} {r:R},chkHs X bf q hs k=some r→
 ((HsA X hs).all fun h=>bit bf p.1 h.1||(chkR p.2.1 p.2.2 h.2.1&&chkR p.2.1 p.2.2 h.2.2))=true∧k=some r
 | [],k,r,h=>⟨rfl,h⟩
 | (j,sp,sq)::hs,k,r,h=>by
  rw [chkHs] at h
  show ((bit bf p.1 j||(chkR p.2.1 p.2.2 (sp.Hv X.g)&&chkR p.2.1 p.2.2 (sq.Hv X.g)))&&(HsA X hs).all _)=true∧_
  split at h
  ·rename_i hb
   obtain ⟨h1,h2⟩:=chkHs_ok hg hq h
   rw [←hq.1] at hb
   rw [hb,h1];exact ⟨rfl,h2⟩
  ·obtain ⟨h0,h⟩:=chk_one hg hq h
   obtain ⟨h1,h2⟩:=chkHs_ok hg hq h
   rw [h0,h1,Bool.or_true];exact ⟨rfl,h2⟩
theorem one_act {Gl:Nat→List AV} {hp:Nat→Bool} {cI:CI} {cH:CH} {d:Option Nat} {op:RO} {t t':T} {H H':List Obj} (h:runOpsT Gl hp cI cH [⟨d,none,op⟩] t H=some (t',H')):
 ∃ v,actAT Gl hp cI cH ⟨d,none,op⟩ t H=some (v,H')∧t'=putD t d v:=by
 rw [runOpsT] at h
 simp only [wantT] at h
 split at h
 case h_2=>cases h
 rename_i v H1 he
 rw [frc_eq,runOpsT] at h
 injection h with h
 injection h with h1 h2
 subst h1;subst h2
 exact ⟨v,by unfold actAT;simp only [wantT];exact he,rfl⟩
theorem actAT_le {Gl:Nat→List AV} {hp:Nat→Bool} {a b:CI} {c d:CH} (h1:a.le b) (h2:c.le d) {o:ROp} {t:T} {H:List Obj} {r} (h:actAT Gl hp a c o t H=some r):actAT Gl hp b d o t H=some r:=by
 unfold actAT at h ⊢
 split at h
 ·rename_i hw;try simp only [hw]
  exact evalOpe_le h1 h2 h
 ·rename_i hw;try simp only [hw]
  exact h
 ·cases h
def RX1 (E:Env) (hp:Nat→Bool) (bf:List Nat) (os:List ROp) (i:Nat) (rs:List (Nat×(List Obj→Option AV)×AV)) (hs:List (Nat×List Obj×List Obj)) (t:T) (H:List Obj) (Q:T→List Obj→Prop):Prop:=
 ∃ n t' H',runXT E.glob hp (cIT E.fns (execT E hp n)) (cHT E.fns (execT E hp n)) bf os i rs hs t H=some (t',H')∧Q t' H'
theorem RX1_step {E:Env} {hp:Nat→Bool} {bf:List Nat} {d:Option Nat} {op:RO} {os:List ROp} {i:Nat} {rs rs':List (Nat×(List Obj→Option AV)×AV)} {hs hs':List (Nat×List Obj×List Obj)} {t:T} {H H':List Obj} {v:AV} {n:Nat} {Q:T→List Obj→Prop}
 (ha:actAT E.glob hp (cIT E.fns (execT E hp n)) (cHT E.fns (execT E hp n)) ⟨d,none,op⟩ t H=some (v,H'))
 (hc:∀ K:Option (T×List Obj)→Option (T×List Obj),(match op.kind with
  | .pure=>K (some (t,H))
  | .read=>if (hs.all fun h=>bit bf i h.1||(chkR (rdT E.glob ⟨d,none,op⟩ t) v h.2.1&&chkR (rdT E.glob ⟨d,none,op⟩ t) v h.2.2))=true then K (some (t,H)) else none
  | _=>if (rs.all fun r=>bit bf i r.1||(chkR r.2.1 r.2.2 H&&chkR r.2.1 r.2.2 H'))=true then K (some (t,H)) else none)=K (some (t,H)))
 (hr:rs'=match op.kind with | .read=>(i,rdT E.glob ⟨d,none,op⟩ t,v)::rs | _=>rs)
 (hh:hs'=match op.kind with | .pure=>hs | .read=>hs | _=>(i,H,H')::hs)
 (h:RX1 E hp bf os (i+1) rs' hs' (putD t d v) H' Q):RX1 E hp bf (⟨d,none,op⟩::os) i rs hs t H Q:=by
 obtain ⟨m,t1,H1,h1,hq⟩:=h
 refine ⟨max n m,t1,H1,?_,hq⟩
 have l1:(cIT E.fns (execT E hp n)).le (cIT E.fns (execT E hp (max n m))):=cIT_mono E.fns (execT_mono (Nat.le_max_left n m))
 have l2:(cHT E.fns (execT E hp n)).le (cHT E.fns (execT E hp (max n m))):=cHT_mono E.fns (execT_mono (Nat.le_max_left n m))
 have m1:(cIT E.fns (execT E hp m)).le (cIT E.fns (execT E hp (max n m))):=cIT_mono E.fns (execT_mono (Nat.le_max_right n m))
 have m2:(cHT E.fns (execT E hp m)).le (cHT E.fns (execT E hp (max n m))):=cHT_mono E.fns (execT_mono (Nat.le_max_right n m))
 rw [runXT,actAT_le l1 l2 ha]
 simp only [frc_eq]
 have h2:=runXT_le m1 m2 bf os h1
 cases hk:op.kind with
 | pure=>rw [hk] at hr hh;dsimp only at hr hh ⊢;subst hr;subst hh;exact h2
 | read=>
  rw [hk] at hr hh;dsimp only at hr hh ⊢
  subst hr;subst hh
  split
  ·exact h2
  ·rename_i hn
   have:=hc (fun _=>some (t,H))
   rw [hk] at this;dsimp only at this
   rw [if_neg hn] at this;cases this
 | write=>
  rw [hk] at hr hh;dsimp only at hr hh ⊢
  subst hr;subst hh
  split
  ·exact h2
  ·rename_i hn
   have:=hc (fun _=>some (t,H))
   rw [hk] at this;dsimp only at this
   rw [if_neg hn] at this;cases this
 | call=>
  rw [hk] at hr hh;dsimp only at hr hh ⊢
  subst hr;subst hh
  split
  ·exact h2
  ·rename_i hn
   have:=hc (fun _=>some (t,H))
   rw [hk] at this;dsimp only at this
   rw [if_neg hn] at this;cases this
theorem dX_ok {X:Cx G} {E:Env} (hX:X.Ok E) {rec:Rec G} (hr:RecOk E X.hp X.g rec) {bf:List Nat} {r:R} {Q:T→List Obj→Prop}:∀ (os:List ROp) {i:Nat} {a:An} {rs:List (Rd G)} {ps:List (Nat×(List Obj→Option AV)×AV)} {hs:List (Nat×DS G×DS G)} {s:DS G} {k:DS G→Option R},
 RsA X rs ps→dX X rec bf os i a rs hs s k=some r→(∀ s',s'.FR X.g=s.FR X.g→k s'=some r→Q (s'.tm X.g) (s'.Hv X.g))→RX1 E X.hp bf os i ps (HsA X hs) (s.tm X.g) (s.Hv X.g) Q
 | [],i,a,rs,ps,hs,s,k,_,h,hk=>⟨0,_,_,rfl,hk s rfl h⟩
 | ⟨d,gd,op⟩::os,i,a,rs,ps,hs,s,k,hrs,h,hk=>by
  rw [dX] at h
  cases gd with
  | some p=>cases h
  | none=>
   dsimp only at h
   have act:∀ {c:DS G→Option R},dop1 X rec false (a.op i) d op s c=some r→∃ n v,∃ s':DS G,actAT E.glob X.hp (cIT E.fns (execT E X.hp n)) (cHT E.fns (execT E X.hp n)) ⟨d,none,op⟩ (s.tm X.g) (s.Hv X.g)=some (v,s'.Hv X.g)∧s'.tm X.g=putD (s.tm X.g) d v∧s'.FR X.g=s.FR X.g∧c s'=some r:=by
    intro c h
    have:=dop1_ok (E:=E) (os:=[]) (Q:=fun t' H'=>∃ s':DS G,s'.tm X.g=t'∧s'.Hv X.g=H'∧s'.FR X.g=s.FR X.g∧c s'=some r) hX hr h (fun s' h1 h2=>WO_nil.2 ⟨s',rfl,rfl,h1,h2⟩)
    obtain ⟨n,t',H',h1,s',e1,e2,e3,e4⟩:=this
    obtain ⟨v,h2,h3⟩:=one_act h1
    exact ⟨n,v,s',by rw [e2];exact h2,by rw [e1,h3],e3,e4⟩
   cases hkd:op.kind with
   | pure=>
    rw [hkd] at h;dsimp only at h
    obtain ⟨n,v,s',h1,h2,h3,h4⟩:=act h
    refine RX1_step h1 (fun K=>by rw [hkd]) (by rw [hkd]) (by rw [hkd]) ?_
    have:=dX_ok hX hr os hrs h4 (Q:=Q) fun s'' q1 q2=>hk s'' (by rw [q1,h3]) q2
    rw [h2] at this;exact this
   | read=>
    rw [hkd] at h;dsimp only at h
    obtain ⟨n,v,s',h1,h2,h3,h4⟩:=act h
    have hq:RdA X ⟨i,op,s⟩ (i,rdT E.glob ⟨d,none,op⟩ (s.tm X.g),v):=by
     refine ⟨rfl,fun A=>?_,?_⟩
     ·show rdT E.glob ⟨d,none,op⟩ (s.tm X.g) A=_
      unfold rdT;simp only [wantT];rw [hX.gl]
     ·show rdT E.glob ⟨d,none,op⟩ (s.tm X.g) (s.Hv X.g)=some v
      unfold actAT at h1;unfold rdT
      simp only [wantT] at h1 ⊢
      unfold evalOpe at h1
      rw [hkd] at h1;dsimp only at h1
      split at h1
      ·rename_i u hu;injection h1 with h1;injection h1 with h1 _;subst h1;exact hu
      ·cases h1
    obtain ⟨hall,h4⟩:=chkHs_ok hX.g hq h4
    refine RX1_step h1 (fun K=>by rw [hkd];dsimp only;rw [if_pos hall]) (by rw [hkd]) (by rw [hkd]) ?_
    have:=dX_ok hX hr os (.cons hq hrs) h4 (Q:=Q) fun s'' q1 q2=>hk s'' (by rw [q1,h3]) q2
    rw [h2] at this;exact this
   | write=>
    rw [hkd] at h;dsimp only at h
    obtain ⟨n,v,s',h1,h2,h3,h4⟩:=act h
    obtain ⟨hall,h4⟩:=chkRs_ok hX.g hrs h4
    refine RX1_step h1 (fun K=>by rw [hkd];dsimp only;rw [if_pos hall]) (by rw [hkd]) (by rw [hkd]) ?_
    have:=dX_ok hX hr os hrs h4 (Q:=Q) fun s'' q1 q2=>hk s'' (by rw [q1,h3]) q2
    rw [h2] at this;exact this
   | call=>
    rw [hkd] at h;dsimp only at h
    obtain ⟨n,v,s',h1,h2,h3,h4⟩:=act h
    obtain ⟨hall,h4⟩:=chkRs_ok hX.g hrs h4
    refine RX1_step h1 (fun K=>by rw [hkd];dsimp only;rw [if_pos hall]) (by rw [hkd]) (by rw [hkd]) ?_
    have:=dX_ok hX hr os hrs h4 (Q:=Q) fun s'' q1 q2=>hk s'' (by rw [q1,h3]) q2
    rw [h2] at this;exact this
theorem WP_drawX {E:Env} {hp:Nat→Bool} {os:List ROp} {bf:List Nat} {b:Nat} {Q:Ex→ST→Prop} {s:ST} (h:RX1 E hp bf os 0 [] [] s.tmps s.H (fun t H=>Q .normal ⟨t,H⟩)):WP E hp (.drawX os bf) b Q s:=by
 obtain ⟨n,t',H',h1,hq⟩:=h
 exact ⟨n+1,_,_,by rw [execT,h1],hq⟩
end
end Dnm
end
