/- Parts of my machine and its laws, joined: DnL DnM. No condition. -/
import Derived.Test.YtafgdbaekppjcaaGreatDoorDnK
set_option linter.unusedSectionVars false
set_option linter.unusedVariables false
set_option linter.unusedSimpArgs false
section
namespace Dnm
open Go hiding Obj mark
open Go.Pl Go.Am Go.Am.As
set_option linter.unusedVariables false
section
variable {G:Nat→Type} {R:Type}
def drfn (X:Cx G) (rec:Rec G) (a:An) (s:DS G) (gx:RX) (c3:C3) (K:Kn G R):Option R:=match fnOf (s.rx X.gl gx) with
 | some p=>(match X.fns p.1 with
  | some rf=>if (Nat.beq (p.2.length+1) rf.nargs&&Nat.ble rf.nargs rf.ntmps)&&(lpB s.fr.length s.H&&s.fits s.H.length (.lp .ready s.fr.length)) then
   let ret:DS G→Option R:=fun s'=>match resV X.g s' rf.results with
    | some _=>(match s'.H[s.H.length]? with
     | some (.lp st fi)=>(match (s'.setN s.H.length .dead).leave s.fr.length with
      | some s2=>if Nat.beq fi s.fr.length then (match st with
       | .ready=>K.n s2
       | .done e=>K.at e s2
       | .busy=>none) else none
      | none=>none)
     | _=>none)
    | none=>none
   rec rf.body a (s.H.length+1) ⟨rf.ntmps,putsS (.raw (.yld s.H.length)::p.2) 0,s.H++[.lp .ready s.fr.length],s.fr++[(s.sz,s.sl,c3)]⟩ ⟨ret,fun _ _=>none,ret⟩
   else none
  | none=>none)
 | none=>none
def dcN (X:Cx G) (CM:List (ConM G)) (rec:Rec G):RC→{R:Type}→An→Nat→DS G→Kn G R→Option R
 | .bad,_,_,_,_,_=>none
 | .skip,_,_,_,s,K=>K.n s
 | .ret,_,_,_,s,K=>K.r s
 | .exit i,_,_,_,s,K=>K.x i s
 | .seq p q,_,a,b,s,K=>jn X.g (asg p) (fun a s K=>dcN X CM rec p a b s K) (a.sub 0) s ⟨fun s'=>jn X.g (asg q) (fun a s K=>dcN X CM rec q a b s K) (a.sub 1) s' K,K.x,K.r⟩
 | .cond x p q,_,a,b,s,K=>(match boolOf (s.rx X.gl x) with
  | some c=>cond c (jn X.g (asg p) (fun a s K=>dcN X CM rec p a b s K) (a.sub 0) s K) (jn X.g (asg q) (fun a s K=>dcN X CM rec q a b s K) (a.sub 1) s K)
  | none=>none)
 | .block i p,_,a,b,s,K=>jn X.g (asg p) (fun a s K=>dcN X CM rec p a b s K) a s ⟨K.n,fun j s'=>bif Nat.beq j i then K.n s' else K.x j s',K.r⟩
 | .loop p,_,a,b,s,K=>dlp X.g (asg p) (fun a s K=>jn X.g (asg p) (fun a s K=>dcN X CM rec p a b s K) a s K) a s K
 | .reg ops,_,a,_,s,K=>dops X rec false ops 0 a s K.n
 | .draw ops,_,a,_,s,K=>dops X rec true ops 0 a s K.n
 | .drawX ops bf,_,a,_,s,K=>dX X rec bf ops 0 a [] [] s K.n
 | .drawW ops k ps,_,_,_,s,K=>ddW X CM rec s.H.length ops ⟨s.sz,s.sl,s.H++List.replicate k .rsv,s.fr⟩ fun s' fs=>if pairsDisj fs ps then K.n s' else none
 | .gh [] (.block i (.loop p)) post,_,a,b,s,K=>dlg X.g (asg p) b i post (fun a s K=>jn X.g (asg p) (fun a s K=>dcN X CM rec p a b s K) a s K) a s K
 | .gh pre p post,_,a,b,s,K=>(match ghV X.g b pre s with
  | some s0=>jn X.g (asg p) (fun a s K=>dcN X CM rec p a b s K) a s0 ⟨fun s'=>(match ghV X.g b post s' with | some s2=>K.n s2 | none=>none),K.x,K.r⟩
  | none=>none)
 | .rfn gx ps as body,_,a,_,s,K=>drfn X rec a s gx (ps,as,body) K
def recN (X:Cx G) (CM:List (ConM G)):Nat→{R:Type}→RC→An→Nat→DS G→Kn G R→Option R
 | 0,_,_,_,_,_,_=>none
 | n+1,_,c,a,b,s,K=>jn X.g (asg c) (fun a s K=>dcN X CM (fun c a b s K=>recN X CM n c a b s K) c a b s K) a s K
theorem WP_rfn {E:Env} {hp:Nat→Bool} {gx:RX} {ps:List Nat} {as body:RC} {b:Nat} {Q:Ex→ST→Prop} {s:ST} {f:Nat} {cap:List AV} {rf:RF} (hx:evT E.glob s.tmps gx= .fn f cap) (hf:E.fns f=some rf) (hn:cap.length+1=rf.nargs) (hm:rf.nargs≤rf.ntmps)
 (h:WP E hp rf.body (s.H.length+1) (fun e s'=>match e with
  | .exit _=>False
  | _=>(∃ l,resultsT rf.results s'=some l)∧∃ ex,lpEnd s'.H s.H.length=some ex∧Q ex ⟨s.tmps,s'.H.set s.H.length .dead⟩) ⟨⟨rf.ntmps,T.puts (.yld s.H.length::cap) 0⟩,s.H++[.lp .ready s.tmps.toL ps as body]⟩):WP E hp (.rfn gx ps as body) b Q s:=by
 obtain ⟨n,e,s',h1,h2⟩:=h
 have key:((∃ l,resultsT rf.results s'=some l)∧∃ ex,lpEnd s'.H s.H.length=some ex∧Q ex ⟨s.tmps,s'.H.set s.H.length .dead⟩)→(e= .normal∨e= .ret)→WP E hp (.rfn gx ps as body) b Q s:=by
  rintro ⟨⟨l,hl⟩,ex,q1,q2⟩ he
  refine ⟨n+1,ex,_,?_,q2⟩
  have hc:cHT E.fns (execT E hp n) (some f) (.yld s.H.length::cap) (s.H++[.lp .ready s.tmps.toL ps as body])=some (oneOf l,s'.H):=by
   have hst:startT rf (.yld s.H.length::cap)=⟨rf.ntmps,T.puts (.yld s.H.length::cap) 0⟩:=rfl
   have hlen:(s.H++[Obj.lp .ready s.tmps.toL ps as body]).length=s.H.length+1:=by simp
   simp only [cHT,hf,List.length_cons,hn,hm,and_self,if_true,hst,hlen,h1]
   rcases he with rfl | rfl<;>simp only [hl]
  rw [execT,hx]
  dsimp only
  rw [hc]
  dsimp only
  rw [q1]
 cases e with
 | exit i=>exact h2.elim
 | normal=>exact key h2 (.inl rfl)
 | ret=>exact key h2 (.inr rfl)
theorem drfn_ok {X:Cx G} {E:Env} (hX:X.Ok E) {rec:Rec G} (hr:RecOk E X.hp X.g rec) {a:An} {b:Nat} {s:DS G} {gx:RX} {ps:List Nat} {as body:RC} {K:Kn G R} {r:R} (h:drfn X rec a s gx (ps,as,body) K=some r):Sat E X.hp X.g (.rfn gx ps as body) b s K r:=by
 unfold drfn at h
 split at h
 case h_2=>cases h
 rename_i p hp
 split at h
 case h_2=>cases h
 rename_i rf hf
 split at h
 case isFalse=>cases h
 rename_i hc
 simp only [Bool.and_eq_true] at hc
 have e1:=Nat.eq_of_beq_eq_true hc.1.1
 have e2:=Nat.le_of_ble_eq_true hc.1.2
 rw [hX.fns] at hf
 have hx:evT E.glob (s.tm X.g) gx= .fn p.1 (TV.avs X.g s.ln p.2):=by rw [DS.rx_av,←hX.gl,fnOf_ok hp];rfl
 have hHl:(s.Hv X.g).length=s.H.length:=Hv_len X.g s
 refine WP_rfn (hx:=hx) hf (by rw [avs_len];exact e1) e2 ?_
 have hw:=hr _ _ _ _ _ _ h
 obtain ⟨k1,k2,k3⟩:=newO_ok (g:=X.g) hc.2.2
 have hno:(s.newO s.H.length (.lp .ready s.fr.length)).H=s.H++[.lp .ready s.fr.length]:=by
  unfold DS.newO;dsimp only;rw [if_neg (Nat.lt_irrefl _)]
 have hFl:(s.FR X.g).length=s.fr.length:=FR_len X.g s
 have hln:(⟨rf.ntmps,putsS (.raw (.yld s.H.length)::p.2) 0,s.H++[.lp .ready s.fr.length],s.fr++[(s.sz,s.sl,(ps,as,body))]⟩:DS G).ln=s.ln:=by
  show lnH _=_
  rw [←hno]
  have hf0:=hc.2.2
  unfold DS.fits at hf0
  rw [Bool.and_eq_true] at hf0
  exact newO_ln0 (Nat.le_refl _) rfl (by simpa using hf0.2)
 have hFR:(⟨rf.ntmps,putsS (.raw (.yld s.H.length)::p.2) 0,s.H++[.lp .ready s.fr.length],s.fr++[(s.sz,s.sl,(ps,as,body))]⟩:DS G).FR X.g=s.FR X.g++[(s.tm X.g,(ps,as,body))]:=by
  unfold DS.FR
  rw [hln,List.map_append];rfl
 have hst:(⟨rf.ntmps,putsS (.raw (.yld s.H.length)::p.2) 0,s.H++[.lp .ready s.fr.length],s.fr++[(s.sz,s.sl,(ps,as,body))]⟩:DS G).st X.g=⟨⟨rf.ntmps,T.puts (.yld s.H.length::TV.avs X.g s.ln p.2) 0⟩,s.Hv X.g++[.lp .ready (s.tm X.g).toL ps as body]⟩:=by
  unfold DS.st DS.tm DS.Hv
  rw [hln,hFR,putsS_av]
  congr 1
  show (s.H++[TO.lp .ready s.fr.length]).map _=_
  rw [List.map_append]
  have h1:s.H.map (TO.av X.g s.ln (s.FR X.g++[(s.tm X.g,(ps,as,body))]))=s.H.map (TO.av X.g s.ln (s.FR X.g)):=by
   refine lpB_ok (n:=s.fr.length) (fun i hi=>?_) hc.2.1
   rw [List.getElem?_append_left (by rw [hFl];exact hi)]
  rw [h1]
  have h2:(s.FR X.g++[(s.tm X.g,((ps,as,body):C3))])[s.fr.length]?=some (s.tm X.g,(ps,as,body)):=by
   rw [←hFl,List.getElem?_append_right (Nat.le_refl _),Nat.sub_self];rfl
  show _++[TO.av X.g s.ln _ (TO.lp .ready s.fr.length)]=_
  simp only [TO.av,h2];rfl
 rw [hst] at hw
 show WP E X.hp rf.body ((s.Hv X.g).length+1) _ ⟨⟨rf.ntmps,T.puts (.yld (s.Hv X.g).length::_) 0⟩,_⟩
 rw [hHl]
 have fin:∀ {s':DS G} {σ:ST},s'.st X.g=σ→s'.FR X.g=s.FR X.g++[(s.tm X.g,(ps,as,body))]→
  (match resV X.g s' rf.results with
   | some _=>(match s'.H[s.H.length]? with
    | some (.lp st fi)=>(match (s'.setN s.H.length .dead).leave s.fr.length with
     | some s2=>if Nat.beq fi s.fr.length then (match st with
      | .ready=>K.n s2
      | .done e=>K.at e s2
      | .busy=>none) else none
     | none=>none)
    | _=>none)
   | none=>none)=some r→(∃ l,resultsT rf.results σ=some l)∧∃ ex,lpEnd σ.H s.H.length=some ex∧∃ s2:DS G,s2.st X.g=⟨s.tm X.g,σ.H.set s.H.length .dead⟩∧s2.FR X.g=s.FR X.g∧K.at ex s2=some r:=by
  intro s' σ h1 h2 h3
  split at h3
  case h_2=>cases h3
  rename_i l hl
  split at h3
  case h_2=>cases h3
  rename_i st fi hlp
  split at h3
  case h_2=>cases h3
  rename_i s2 hs2
  split at h3
  case isFalse=>cases h3
  rename_i hfi
  have hfi:=Nat.eq_of_beq_eq_true hfi
  subst hfi
  obtain ⟨q1,q2,q3,q4⟩:=setN_ok (g:=X.g) (o':= .dead) hlp rfl
  obtain ⟨v1,v2,v3,v4⟩:=leave_ok (g:=X.g) (s:=s) hs2 (by rw [q3,h2])
  have hH:σ.H=s'.Hv X.g:=by rw [←h1];rfl
  have hst2:s2.st X.g=⟨s.tm X.g,σ.H.set s.H.length .dead⟩:=by
   show (⟨s2.tm X.g,s2.Hv X.g⟩:ST)=_
   rw [v1,v4,q4,hH];rfl
  have hF:(s'.FR X.g)[s.fr.length]?=some (s.tm X.g,(ps,as,body)):=by
   rw [h2,←hFl,List.getElem?_append_right (Nat.le_refl _),Nat.sub_self];rfl
  have hlpv:σ.H[s.H.length]?=some (.lp st (s.tm X.g).toL ps as body):=by
   rw [hH,Hv_get hlp];simp only [TO.av,hF]
  refine ⟨⟨_,by rw [←h1];exact resV_ok hX.g hl⟩,?_⟩
  cases st with
  | ready=>exact ⟨.normal,by unfold lpEnd;rw [hlpv],s2,hst2,v2,h3⟩
  | done e=>exact ⟨e,by unfold lpEnd;rw [hlpv],s2,hst2,v2,h3⟩
  | busy=>cases h3
 refine hw.mono ?_
 rintro e σ ⟨s',p1,p2,p3⟩
 rw [hFR] at p2
 cases e with
 | exit i=>cases p3
 | normal=>
  obtain ⟨h1,ex,h2,s2,h3,h4,h5⟩:=fin p1 p2 p3
  refine ⟨h1,ex,?_,s2,?_,h4,h5⟩
  ·show lpEnd σ.H (s.Hv X.g).length=_;rw [hHl];exact h2
  ·rw [h3];show (⟨_,_⟩:ST)=⟨s.tm X.g,σ.H.set (s.Hv X.g).length .dead⟩;rw [hHl]
 | ret=>
  obtain ⟨h1,ex,h2,s2,h3,h4,h5⟩:=fin p1 p2 p3
  refine ⟨h1,ex,?_,s2,?_,h4,h5⟩
  ·show lpEnd σ.H (s.Hv X.g).length=_;rw [hHl];exact h2
  ·rw [h3];show (⟨_,_⟩:ST)=⟨s.tm X.g,σ.H.set (s.Hv X.g).length .dead⟩;rw [hHl]
theorem dcN_ok {X:Cx G} {E:Env} (hX:X.Ok E) {CM:List (ConM G)} (hM:∀ c∈CM,c.Ok E X.hp X.g) {rec:Rec G} (hr:RecOk E X.hp X.g rec):∀ (c:RC) {R:Type} (a:An) (b:Nat) (s:DS G) (K:Kn G R) (r:R),dcN X CM rec c a b s K=some r→Sat E X.hp X.g c b s K r
 | .bad,R,a,b,s,K,r,h=>by cases h
 | .skip,R,a,b,s,K,r,h=>WP_skip.2 ⟨s,rfl,rfl,h⟩
 | .ret,R,a,b,s,K,r,h=>WP_ret.2 ⟨s,rfl,rfl,h⟩
 | .exit i,R,a,b,s,K,r,h=>WP_exit.2 ⟨s,rfl,rfl,h⟩
 | .seq p q,R,a,b,s,K,r,h=>by
  have h1:=jn_ok hX.g (c:=p) (b:=b) (fun a s K r h=>dcN_ok hX hM hr p a b s K r h) _ _ _ _ h
  refine WP_seq.2 (h1.mono ?_)
  rintro e σ ⟨s',p1,p2,p3⟩
  cases e with
  | normal=>
   have h2:=jn_ok hX.g (c:=q) (b:=b) (fun a s K r h=>dcN_ok hX hM hr q a b s K r h) _ _ _ _ p3
   subst p1
   refine h2.mono ?_
   rintro e σ ⟨s'',q1,q2,q3⟩
   exact ⟨s'',q1,by rw [q2,p2],q3⟩
  | exit i=>exact ⟨s',p1,p2,p3⟩
  | ret=>exact ⟨s',p1,p2,p3⟩
 | .cond x p q,R,a,b,s,K,r,h=>by
  rw [dcN] at h
  split at h
  case h_2=>cases h
  rename_i c hc
  have hx:evT E.glob (s.st X.g).tmps x= .bool c:=by
   show evT E.glob (s.tm X.g) x=_
   rw [DS.rx_av,←hX.gl,boolOf_ok hc];rfl
  refine WP_cond.2 ?_
  rw [hx]
  cases c with
  | true=>exact jn_ok hX.g (c:=p) (b:=b) (fun a s K r h=>dcN_ok hX hM hr p a b s K r h) _ _ _ _ h
  | false=>exact jn_ok hX.g (c:=q) (b:=b) (fun a s K r h=>dcN_ok hX hM hr q a b s K r h) _ _ _ _ h
 | .block i p,R,a,b,s,K,r,h=>by
  have h1:=jn_ok hX.g (c:=p) (b:=b) (fun a s K r h=>dcN_ok hX hM hr p a b s K r h) _ _ _ _ h
  refine WP_block.2 (h1.mono ?_)
  rintro e σ ⟨s',p1,p2,p3⟩
  cases e with
  | normal=>exact ⟨s',p1,p2,p3⟩
  | ret=>exact ⟨s',p1,p2,p3⟩
  | exit j=>
   have p3:(bif Nat.beq j i then K.n s' else K.x j s')=some r:=p3
   dsimp only
   by_cases hj:j=i
   ·subst hj
    rw [if_pos rfl]
    rw [show Nat.beq j j=true from Nat.beq_refl j] at p3
    exact ⟨s',p1,p2,p3⟩
   ·rw [if_neg hj]
    have:Nat.beq j i=false:=by
     cases hb:Nat.beq j i with
     | false=>rfl
     | true=>exact (hj (Nat.eq_of_beq_eq_true hb)).elim
    rw [this] at p3
    exact ⟨s',p1,p2,p3⟩
 | .loop p,R,a,b,s,K,r,h=>dlp_ok hX.g (c:=p) (b:=b) (f:=fun a s K=>jn X.g (asg p) (fun a s K=>dcN X CM rec p a b s K) a s K) (fun a s K r h=>jn_ok hX.g (c:=p) (b:=b) (fun a s K r h=>dcN_ok hX hM hr p a b s K r h) _ _ _ _ h) h
 | .reg ops,R,a,b,s,K,r,h=>WP_reg.2 (dops_ok hX hr ops h fun s' h1 h2=>⟨s',rfl,h1,h2⟩)
 | .draw ops,R,a,b,s,K,r,h=>WP_draw.2 (dops_ok hX hr ops h fun s' h1 h2=>⟨s',rfl,h1,h2⟩)
 | .drawX ops bf,R,a,b,s,K,r,h=>WP_drawX (dX_ok hX hr ops .nil h fun s' h1 h2=>⟨s',rfl,h1,h2⟩)
 | .drawW ops k ps,R,a,b,s,K,r,h=>by
  have hln:(⟨s.sz,s.sl,s.H++List.replicate k .rsv,s.fr⟩:DS G).ln=s.ln:=by
   funext j
   show lnH _ j=lnH _ j
   unfold lnH
   by_cases hj:j < s.H.length
   ·rw [List.getElem?_append_left hj]
   ·rw [List.getElem?_append_right (by omega),List.getElem?_eq_none (by omega:s.H.length≤j)]
    rw [List.getElem?_replicate]
    split
    ·rename_i o ho
     split at ho
     ·injection ho with ho;subst ho;rfl
     ·cases ho
    ·rfl
  have hFR:(⟨s.sz,s.sl,s.H++List.replicate k .rsv,s.fr⟩:DS G).FR X.g=s.FR X.g:=by unfold DS.FR;rw [hln]
  have htm:(⟨s.sz,s.sl,s.H++List.replicate k .rsv,s.fr⟩:DS G).tm X.g=s.tm X.g:=by unfold DS.tm;rw [hln]
  have hHv:(⟨s.sz,s.sl,s.H++List.replicate k .rsv,s.fr⟩:DS G).Hv X.g=s.Hv X.g++List.replicate k .rsv:=by
   unfold DS.Hv
   rw [hFR,hln]
   show (s.H++List.replicate k TO.rsv).map _=_
   rw [List.map_append,List.map_replicate];rfl
  have hw:=ddW_ok hX hM (E:=E) (Q:=fun t H fs=>pairsDisj fs ps=true∧∃ s':DS G,s'.st X.g=⟨t,H⟩∧s'.FR X.g=s.FR X.g∧K.n s'=some r) ops h (fun s' fs h1 h2=>by
   split at h2
   case isFalse=>cases h2
   rename_i hp
   exact ⟨hp,s',rfl,by rw [h1,hFR],h2⟩)
  rw [htm,hHv] at hw
  obtain ⟨n,t',H',fs,h1,h2,s',h3,h4,h5⟩:=hw
  refine ⟨n+1,.normal,⟨t',H'⟩,?_,s',h3,h4,h5⟩
  show (match runDT E.glob (cIT E.fns (execT E X.hp n)) (s.Hv X.g).length ops (s.tm X.g) (s.Hv X.g++List.replicate k .rsv) with
   | some (t,H,fs)=>if pairsDisj fs ps=true then some (Ex.normal,(⟨t,H⟩:ST)) else none
   | none=>none)=_
  rw [Hv_len,h1]
  simp only [h2,if_true]
 | .gh pre p post,R,a,b,s,K,r,h=>by
  by_cases he:∃ i q,pre=[]∧p= .block i (.loop q)
  ·obtain ⟨i,q,h1,h2⟩:=he
   have hlt:sizeOf q < sizeOf p:=by rw [h2];simp;omega
   have ih:=fun {R:Type} (a:An) (s:DS G) (K:Kn G R) (r:R) (h:dcN X CM rec q a b s K=some r)=>dcN_ok hX hM hr q a b s K r h
   rw [h1,h2] at h ⊢
   rw [dcN] at h
   exact dlg_ok hX.g hX.wk (c:=q) (b:=b) (f:=fun a s K=>jn X.g (asg q) (fun a s K=>dcN X CM rec q a b s K) a s K) (fun a s K r h=>jn_ok hX.g (c:=q) (b:=b) (fun a s K r h=>ih a s K r h) _ _ _ _ h) h
  rw [dcN] at h
  case x_7=>exact fun i q h1 h2=>he ⟨i,q,h1,h2⟩
  split at h
  case h_2=>cases h
  rename_i s0 h0
  obtain ⟨g1,g2⟩:=ghV_ok hX.g hX.wk h0
  have h1:=jn_ok hX.g (c:=p) (b:=b) (fun a s K r h=>dcN_ok hX hM hr p a b s K r h) _ _ _ _ h
  refine WP_gh.2 ?_
  rw [g1]
  refine h1.mono ?_
  rintro e σ ⟨s',p1,p2,p3⟩
  cases e with
  | normal=>
   have p3:(match ghV X.g b post s' with | some s2=>K.n s2 | none=>none)=some r:=p3
   split at p3
   case h_2=>cases p3
   rename_i s2 h2
   obtain ⟨g3,g4⟩:=ghV_ok hX.g hX.wk h2
   subst p1
   dsimp only
   rw [g3]
   exact ⟨s2,rfl,by rw [g4,p2,g2],p3⟩
  | exit i=>exact ⟨s',p1,by rw [p2,g2],p3⟩
  | ret=>exact ⟨s',p1,by rw [p2,g2],p3⟩
 | .rfn gx ps as body,R,a,b,s,K,r,h=>drfn_ok hX hr h
theorem recN_ok {X:Cx G} {E:Env} (hX:X.Ok E) {CM:List (ConM G)} (hM:∀ c∈CM,c.Ok E X.hp X.g):∀ n,RecOk E X.hp X.g (fun c a b s K=>recN X CM n c a b s K)
 | 0=>fun c a b s K r h=>by cases h
 | n+1=>fun c a b s K r h=>jn_ok hX.g (c:=c) (b:=b) (fun a s K r h=>dcN_ok hX hM (recN_ok hX hM n) c a b s K r h) _ _ _ _ h
def outT:Nat→TV G→List (TV G)
 | 1,v=>[v]
 | _,v=>match v with
  | .tup l=>l
  | v=>[v]
def dfun (X:Cx G) (CM:List (ConM G)) (n:Nat) (rf:RF) (args:List Sh) (ts rs:List Ty) (a:An) (x:DL G ts):Option (DL G rs):=
 let vs:=rebA X.g args (viewDL X.g ts x)
 let fin:DS G→Option (DL G rs):=fun s'=>match resV X.g s' rf.results with
  | some l=>(match pkV s'.H 6 (oneT l) with
   | some w=>if Nat.beq (outT rs.length w).length rs.length then mkDL X.g rs (outT rs.length w) else none
   | none=>none)
  | none=>none
 if Nat.beq vs.length rf.nargs&&Nat.ble rf.nargs rf.ntmps then recN X CM n rf.body a 0 ⟨rf.ntmps,putsS vs 0,[],[]⟩ ⟨fin,fun _ _=>none,fin⟩ else none
theorem outT_av {g:Ge G} {ln:Nat→Nat} {n:Nat} {v:TV G} (h:(outT n v).length=n):oneOf (TV.avs g ln (outT n v))=v.av g ln:=by
 match n,v with
 | 1,v=>rfl
 | 0,.tup []=>rfl
 | 0,.tup (_::_)=>simp [outT] at h
 | n+2,.tup []=>simp [outT] at h
 | n+2,.tup [_]=>simp [outT] at h
 | n+2,.tup (a::b::l)=>rfl
 | 0,.int .. | 0,.bool _ | 0,.str _ | 0,.lst .. | 0,.olst .. | 0,.rol _ | 0,.agg _ | 0,.pro _ | 0,.fn .. | 0,.po .. | 0,.own _ | 0,.pe .. | 0,.pa .. | 0,.sa .. | 0,.arr .. | 0,.optr .. | 0,.raw _=>simp [outT] at h
 | n+2,.int .. | n+2,.bool _ | n+2,.str _ | n+2,.lst .. | n+2,.olst .. | n+2,.rol _ | n+2,.agg _ | n+2,.pro _ | n+2,.fn .. | n+2,.po .. | n+2,.own _ | n+2,.pe .. | n+2,.pa .. | n+2,.sa .. | n+2,.arr .. | n+2,.optr .. | n+2,.raw _=>simp [outT] at h
theorem dfun_ok {X:Cx G} {E:Env} (hX:X.Ok E) {CM:List (ConM G)} (hM:∀ c∈CM,c.Ok E X.hp X.g) {n f:Nat} {rf:RF} (hf:E.fns f=some rf) {args:List Sh} {ts rs:List Ty} {a:An} {x:DL G ts} {r:DL G rs} (h:dfun X CM n rf args ts rs a x=some r):
 Pt E X.hp f (TV.avs X.g (fun _=>0) (rebA X.g args (viewDL X.g ts x))) (oneOf (vaDL X.g rs r)):=by
 unfold dfun at h
 dsimp only at h
 split at h
 case isFalse=>cases h
 rename_i hc
 rw [Bool.and_eq_true] at hc
 have e1:=Nat.eq_of_beq_eq_true hc.1
 have e2:=Nat.le_of_ble_eq_true hc.2
 refine Pt_of hf (by rw [avs_len];exact e1) e2 ?_
 have hw:=recN_ok hX hM n _ _ _ _ _ _ h
 have hst:(⟨rf.ntmps,putsS (rebA X.g args (viewDL X.g ts x)) 0,[],[]⟩:DS G).st X.g=⟨startT rf (TV.avs X.g (fun _=>0) (rebA X.g args (viewDL X.g ts x))),[]⟩:=by
  show (⟨⟨_,avL X.g _ _⟩,[]⟩:ST)=_
  rw [putsS_av];rfl
 rw [hst] at hw
 have fin:∀ {s':DS G} {σ:ST},s'.st X.g=σ→(match resV X.g s' rf.results with
  | some l=>(match pkV s'.H 6 (oneT l) with
   | some w=>if Nat.beq (outT rs.length w).length rs.length then mkDL X.g rs (outT rs.length w) else none
   | none=>none)
  | none=>none)=some r→∃ l,resultsT rf.results σ=some l∧pack σ.H (oneOf l)=some (oneOf (vaDL X.g rs r)):=by
  intro s' σ h1 h2
  split at h2
  case h_2=>cases h2
  rename_i l hl
  split at h2
  case h_2=>cases h2
  rename_i w hw
  split at h2
  case isFalse=>cases h2
  rename_i hlen
  have hlen:=Nat.eq_of_beq_eq_true hlen
  refine ⟨_,by rw [←h1];exact resV_ok hX.g hl,?_⟩
  have h3:=pkV_ok hX.g 6 hw
  rw [oneT_av] at h3
  rw [←mkDL_ok hX.g s'.ln _ _ _ h2,outT_av hlen,←h1]
  exact h3
 refine hw.mono ?_
 rintro e σ ⟨s',p1,p2,p3⟩
 cases e with
 | exit i=>cases p3
 | normal=>exact fin p1 p3
 | ret=>exact fin p1 p3
def dfunM (X:Cx G) (CM:List (ConM G)) (n:Nat) (rf:RF) (args:List Sh) (ts:List Ty) (t:Ty) (a:An) (x:DL G ts):Option (List (t.D G)):=
 let vs:=rebA X.g args (viewDL X.g ts x)
 let fin:DS G→Option (List (t.D G)):=fun s'=>match resV X.g s' rf.results with
  | some [.own id]=>(match s'.H[id]? with
   | some (.lst fl u l)=>if h:u=t then (if fl.free then some (h▸l) else none) else none
   | some (.raws fl sz es)=>if fl.free&&Nat.beq sz (t.n X.g) then rawsT X.g t es else none
   | _=>none)
  | _=>none
 if Nat.beq vs.length rf.nargs&&Nat.ble rf.nargs rf.ntmps then recN X CM n rf.body a 0 ⟨rf.ntmps,putsS vs 0,[],[]⟩ ⟨fin,fun _ _=>none,fin⟩ else none
theorem free_fl {fl:Fl} (h:fl.free=true):fl= .norm∨fl= .nil:=by cases fl<;>first | exact .inl rfl | exact .inr rfl | cases h
theorem mkRes_own {H:List Obj} {id sz:Nat} {fl:Fl} {es:List (List AV)} (hH:H[id]?=some (.live fl sz es)) (hf:fl.free=true) (hb:AV.belss 0 es=true) (hne:es≠[]):mkRes H (.own id es.length 0 es.length)=some (.tup [.pown 0 0 sz 0,.ro es]):=by
 unfold mkRes
 simp only [hH]
 rw [if_pos ⟨trivial,trivial,trivial⟩]
 cases es with
 | nil=>exact (hne rfl).elim
 | cons e es=>
  dsimp only
  rw [if_pos ⟨free_fl hf,hb⟩]
theorem dfunM_ok {X:Cx G} {E:Env} (hX:X.Ok E) {CM:List (ConM G)} (hM:∀ c∈CM,c.Ok E X.hp X.g) {n f:Nat} {rf:RF} (hf:E.fns f=some rf) {args:List Sh} {ts:List Ty} {t:Ty} {a:An} {x:DL G ts} {r:List (t.D G)} (h:dfunM X CM n rf args ts t a x=some r) (hne:r≠[]):
 ∃ n,cIT E.fns (execT E X.hp n) f (.pown 0 0 0 0::TV.avs X.g (fun _=>0) (rebA X.g args (viewDL X.g ts x)))=some (.tup [.pown 0 0 (t.n X.g) 0,.ro (r.map (enc X.g t))]):=by
 unfold dfunM at h
 dsimp only at h
 split at h
 case isFalse=>cases h
 rename_i hc
 rw [Bool.and_eq_true] at hc
 have e1:=Nat.eq_of_beq_eq_true hc.1
 have e2:=Nat.le_of_ble_eq_true hc.2
 have hw:=recN_ok hX hM n _ _ _ _ _ _ h
 have hst:(⟨rf.ntmps,putsS (rebA X.g args (viewDL X.g ts x)) 0,[],[]⟩:DS G).st X.g=⟨startT rf (TV.avs X.g (fun _=>0) (rebA X.g args (viewDL X.g ts x))),[]⟩:=by
  show (⟨⟨_,avL X.g _ _⟩,[]⟩:ST)=_
  rw [putsS_av];rfl
 rw [hst] at hw
 obtain ⟨n,e,σ,h1,s',p1,p2,p3⟩:=hw
 have fin:(match resV X.g s' rf.results with
  | some [.own id]=>(match s'.H[id]? with
   | some (.lst fl u l)=>if h:u=t then (if fl.free then some (h▸l) else none) else none
   | some (.raws fl sz es)=>if fl.free&&Nat.beq sz (t.n X.g) then rawsT X.g t es else none
   | _=>none)
  | _=>none)=some r→∃ v,resultsT rf.results σ=some [v]∧mkRes σ.H v=some (.tup [.pown 0 0 (t.n X.g) 0,.ro (r.map (enc X.g t))]):=by
  intro h2
  split at h2
  case h_2=>cases h2
  rename_i id hl
  have hres:resultsT rf.results σ=some [.own id (s'.ln id) 0 (s'.ln id)]:=by rw [←p1];exact resV_ok hX.g hl
  refine ⟨_,hres,?_⟩
  have hH:σ.H=s'.Hv X.g:=by rw [←p1];rfl
  rw [hH]
  have hne':r.map (enc X.g t)≠[]:=by intro h;exact hne (List.map_eq_nil_iff.1 h)
  split at h2
  ·rename_i fl u l hid
   split at h2
   case isFalse=>cases h2
   rename_i e;subst e
   split at h2
   case isFalse=>cases h2
   rename_i hfr
   injection h2 with h2
   subst h2
   rw [setN_lst hid]
   have:=mkRes_own (Hv_get (g:=X.g) hid) hfr (belss_map (encOk hX.g u).bel l) hne'
   rw [List.length_map] at this;exact this
  ·rename_i fl sz es hid
   split at h2
   case isFalse=>cases h2
   rename_i hfr
   rw [Bool.and_eq_true] at hfr
   have hsz:=Nat.eq_of_beq_eq_true hfr.2
   subst hsz
   obtain ⟨q1,q2⟩:=rawsT_ok hX.g s'.ln h2
   have e:s'.ln id=es.length:=by unfold DS.ln lnH;rw [hid];rfl
   have hg:=Hv_get (g:=X.g) hid
   simp only [TO.av,q1] at hg
   have:=mkRes_own hg hfr.1 (belss_map (encOk hX.g t).bel r) hne'
   rw [List.length_map] at this
   rw [e,q2];exact this
  ·cases h2
 have done:(e= .normal∨e= .ret)→(∃ v,resultsT rf.results σ=some [v]∧mkRes σ.H v=some (.tup [.pown 0 0 (t.n X.g) 0,.ro (r.map (enc X.g t))]))→∃ n,cIT E.fns (execT E X.hp n) f (.pown 0 0 0 0::TV.avs X.g (fun _=>0) (rebA X.g args (viewDL X.g ts x)))=some (.tup [.pown 0 0 (t.n X.g) 0,.ro (r.map (enc X.g t))]):=by
  rintro he ⟨v,h2,h3⟩
  refine ⟨n,?_⟩
  have hl:(TV.avs X.g (fun _=>0) (rebA X.g args (viewDL X.g ts x))).length=rf.nargs:=by rw [avs_len];exact e1
  unfold cIT
  rw [hf]
  dsimp only
  rw [if_neg (by rw [List.length_cons,hl];omega)]
  have hcm:∀ as:List AV,cMkT (execT E X.hp n) rf (.pown 0 0 0 0::as)=if as.length=rf.nargs∧rf.nargs≤rf.ntmps then
   (match execT E X.hp n rf.body 0 ⟨startT rf as,[]⟩ with
    | some (.exit _,_)=>none
    | some (_,s')=>(match resultsT rf.results s' with
     | some [v]=>mkRes s'.H v
     | _=>none)
    | none=>none)
   else none:=fun _=>rfl
  rw [hcm,if_pos ⟨hl,e2⟩,h1]
  rcases he with rfl | rfl<;>(dsimp only;rw [h2];exact h3)
 cases e with
 | exit i=>cases p3
 | normal=>exact done (.inl rfl) (fin p3)
 | ret=>exact done (.inr rfl) (fin p3)
end
end Dnm
end
section
namespace Dnm
open Go hiding Obj mark
open Go.Pl Go.Am Go.Am.As
set_option linter.unusedVariables false
structure Sp (G:Nat→Type) where
 n:Nat→Nat
 ft:Nat→List Ty
 to:(i:Nat)→G i→DL G (ft i)
 of:(i:Nat)→DL G (ft i)→G i
 enc:(i:Nat)→G i→List AV
section
variable {G:Nat→Type}
def nTy (n:Nat→Nat):Ty→Nat
 | .st i=>n i
 | .arr k t=>k*nTy n t
 | _=>1
def splitF (n:Nat→Nat):List Ty→List (TV G)→Option (List (TV G))
 | [],l=>(match l with | []=>some [] | _::_=>none)
 | t::ts,l=>(match t with
  | .st i=>if Nat.ble (n i) l.length then (match splitF n ts (l.drop (n i)) with | some r=>some (.agg (l.take (n i))::r) | none=>none) else none
  | .arr k u=>if Nat.ble (k*nTy n u) l.length then (match splitF n ts (l.drop (k*nTy n u)) with | some r=>some (.agg (l.take (k*nTy n u))::r) | none=>none) else none
  | _=>(match l with
   | v::l=>if oneV v then (match splitF n ts l with | some r=>some (v::r) | none=>none) else none
   | []=>none))
def Sp.mk' (p:Sp G):Nat→(i:Nat)→List (TV G)→Option (G i)
 | 0,_,_=>none
 | d+1,i,l=>
  let g:Ge G:=⟨p.n,p.enc,fun i x=>[],fun i l=>p.mk' d i l⟩
  match splitF p.n (p.ft i) l with
  | some q=>(match mkDL g (p.ft i) q with | some w=>some (p.of i w) | none=>none)
  | none=>none
def cellsDL (g:Ge G):(ts:List Ty)→DL G ts→List (TV G)
 | [],_=>[]
 | [t],x=>(view g t x).cells g
 | t::u::r,x=>(view g t x.1).cells g++cellsDL g (u::r) x.2
def encDL (g:Ge G):(ts:List Ty)→DL G ts→List AV
 | [],_=>[]
 | [t],x=>enc g t x
 | t::u::r,x=>enc g t x.1++encDL g (u::r) x.2
def Sp.view' (p:Sp G):Nat→(i:Nat)→G i→List (TV G)
 | 0,i,x=>(p.enc i x).map .raw
 | d+1,i,x=>
  let g:Ge G:=⟨p.n,p.enc,fun i x=>p.view' d i x,fun _ _=>none⟩
  cellsDL g (p.ft i) (p.to i x)
def Sp.ge (p:Sp G):Ge G:=⟨p.n,p.enc,fun i x=>p.view' 6 i x,fun i l=>p.mk' 6 i l⟩
structure Sp.Ok (p:Sp G):Prop where
 enc:∀ i,EncOk (p.enc i) (p.n i)
 e:∀ i x,p.enc i x=encDL p.ge (p.ft i) (p.to i x)
 to:∀ i w,p.to i (p.of i w)=w
theorem enc_congr {g h:Ge G} (e:g.enc=h.enc):∀ t:Ty,enc g t=enc h t
 | .int _ | .bool | .str=>rfl
 | .list t=>by funext l;show [AV.ro _]=[AV.ro _];rw [enc_congr e t]
 | .olist t=>by funext l;show [encO _ _]=[encO _ _];rw [enc_congr e t]
 | .st i=>by funext x;show g.enc i x=h.enc i x;rw [e]
 | .ptr t=>by funext x;show [AV.pro _]=[AV.pro _];rw [enc_congr e t]
 | .optr t=>by funext x;show [encP _ _]=[encP _ _];rw [enc_congr e t]
 | .arr n t=>by funext a;show (List.map _ _).flatten=(List.map _ _).flatten;rw [enc_congr e t]
theorem encDL_congr {g h:Ge G} (e:g.enc=h.enc):∀ (ts:List Ty) (x:DL G ts),encDL g ts x=encDL h ts x
 | [],_=>rfl
 | [t],x=>congrFun (enc_congr e t) x
 | t::u::r,x=>by
  show enc g t x.1++encDL g (u::r) x.2=enc h t x.1++encDL h (u::r) x.2
  rw [enc_congr e t,encDL_congr e (u::r) x.2]
mutual
theorem av_congr {g h:Ge G} (e:g.enc=h.enc) (ln:Nat→Nat):∀ v:TV G,v.av g ln=v.av h ln
 | .int _ _ | .bool _ | .str _ | .po .. | .own _ | .pe .. | .pa .. | .sa .. | .raw _=>rfl
 | .lst t l=>by rw [TV.av,TV.av,enc_congr e t]
 | .olst t l=>by rw [TV.av,TV.av,enc_congr e t]
 | .optr t l=>by rw [TV.av,TV.av,enc_congr e t]
 | .arr n t a=>by show AV.agg _=AV.agg _;rw [enc_congr e t]
 | .rol es=>by rw [TV.av,TV.av,avss_congr e ln es]
 | .agg l=>by rw [TV.av,TV.av,avs_congr e ln l]
 | .tup l=>by rw [TV.av,TV.av,avs_congr e ln l]
 | .pro l=>by rw [TV.av,TV.av,avs_congr e ln l]
 | .fn f l=>by rw [TV.av,TV.av,avs_congr e ln l]
theorem avs_congr {g h:Ge G} (e:g.enc=h.enc) (ln:Nat→Nat):∀ l:List (TV G),TV.avs g ln l=TV.avs h ln l
 | []=>rfl
 | x::l=>by rw [TV.avs,TV.avs,av_congr e ln x,avs_congr e ln l]
theorem avss_congr {g h:Ge G} (e:g.enc=h.enc) (ln:Nat→Nat):∀ l:List (List (TV G)),TV.avss g ln l=TV.avss h ln l
 | []=>rfl
 | x::l=>by rw [TV.avss,TV.avss,avs_congr e ln x,avss_congr e ln l]
end
theorem oneV_cells {g:Ge G} {ln:Nat→Nat} {v:TV G} (h:oneV v=true):(v.av g ln).cells=[v.av g ln]:=by
 cases v with
 | agg l=>cases h
 | tup l=>cases h
 | arr n t a=>cases h
 | raw a=>cases a<;>first | rfl | cases h
 | olst t o=>cases o<;>rfl
 | optr t o=>cases o<;>rfl
 | sa i lo len=>simp only [TV.av];split<;>rfl
 | _=>rfl
theorem splitF_ok {g:Ge G} {ln:Nat→Nat} {n:Nat→Nat}:∀ {ts:List Ty} {l q:List (TV G)},splitF n ts l=some q→TV.avs g ln l=q.flatMap fun v=>(v.av g ln).cells
 | [],l,q,h=>by
  cases l with
  | nil=>injection h with h;subst h;rfl
  | cons x l=>cases h
 | t::ts,l,q,h=>by
  have ag:∀ {k:Nat},(if Nat.ble k l.length then (match splitF n ts (l.drop k) with | some r=>some (.agg (l.take k)::r) | none=>none) else none)=some q→TV.avs g ln l=q.flatMap fun v=>(v.av g ln).cells:=by
   intro k h
   split at h
   case isFalse=>cases h
   split at h
   case h_2=>cases h
   rename_i r hr
   injection h with h;subst h
   have ih:=splitF_ok (g:=g) (ln:=ln) hr
   rw [List.flatMap_cons,←ih]
   show _=TV.avs g ln (l.take k)++_
   rw [←avs_app,List.take_append_drop]
  have on:(match l with
   | v::l=>if oneV v then (match splitF n ts l with | some r=>some (v::r) | none=>none) else none
   | []=>none)=some q→TV.avs g ln l=q.flatMap fun v=>(v.av g ln).cells:=by
   intro h
   split at h
   case h_2=>cases h
   rename_i v l
   split at h
   case isFalse=>cases h
   rename_i ho
   split at h
   case h_2=>cases h
   rename_i r hr
   injection h with h;subst h
   rw [List.flatMap_cons,TV.avs,splitF_ok (g:=g) (ln:=ln) hr,oneV_cells ho];rfl
  cases t with
  | st i=>exact ag h
  | arr k u=>exact ag h
  | _=>exact on h
theorem vaDL_cells (g:Ge G):∀ (ts:List Ty) (x:DL G ts),(vaDL g ts x).flatMap AV.cells=encDL g ts x
 | [],_=>rfl
 | [t],x=>by
  show (va g t x).cells++[]=enc g t x
  rw [List.append_nil];exact va_cells g t x
 | t::u::r,x=>by
  show (va g t x.1).cells++(vaDL g (u::r) x.2).flatMap AV.cells=_
  rw [vaDL_cells g (u::r),va_cells];rfl
theorem mk'_ok {p:Sp G} (hp:p.Ok):∀ (d i:Nat) (l:List (TV G)) (x:G i) (ln:Nat→Nat),p.mk' d i l=some x→TV.avs p.ge ln l=p.enc i x
 | 0,i,l,x,ln,h=>by cases h
 | d+1,i,l,x,ln,h=>by
  rw [Sp.mk'] at h
  split at h
  case h_2=>cases h
  rename_i q hq
  split at h
  case h_2=>cases h
  rename_i w hw
  injection h with h;subst h
  have key:∀ (g:Ge G),g.enc=p.enc→g.Ok→mkDL g (p.ft i) q=some w→TV.avs p.ge ln l=p.enc i (p.of i w):=by
   intro g he hg hw
   have h1:=mkDL_ok hg ln _ _ _ hw
   rw [splitF_ok (g:=p.ge) (ln:=ln) hq,hp.e,hp.to,←encDL_congr (g:=g) (h:=p.ge) he,←vaDL_cells,←h1,avs_map,List.flatMap_map]
   congr 1
   funext v
   rw [av_congr (g:=g) (h:=p.ge) he]
  have hg0:∀ (vw:(i:Nat)→G i→List (TV G)),(∀ i x ln,TV.avs p.ge ln (vw i x)=p.enc i x)→Ge.Ok (⟨p.n,p.enc,vw,fun i l=>p.mk' d i l⟩:Ge G):=by
   intro vw hv
   exact ⟨hp.enc,fun i x ln=>(avs_congr (g:=⟨p.n,p.enc,vw,fun i l=>p.mk' d i l⟩) (h:=p.ge) rfl ln _).trans (hv i x ln),fun i l x ln h=>(avs_congr (g:=⟨p.n,p.enc,vw,fun i l=>p.mk' d i l⟩) (h:=p.ge) rfl ln _).trans (mk'_ok hp d i l x ln h)⟩
  have hraw:∀ (i:Nat) (x:G i) (ln:Nat→Nat),TV.avs p.ge ln ((p.enc i x).map .raw)=p.enc i x:=fun i x ln=>raw_avs p.ge ln _
  have hw':mkDL (⟨p.n,p.enc,fun i x=>(p.enc i x).map .raw,fun i l=>p.mk' d i l⟩:Ge G) (p.ft i) q=some w:=by
   have cg:∀ (t:Ty) (v:TV G),asT (⟨p.n,p.enc,fun i x=>(p.enc i x).map .raw,fun i l=>p.mk' d i l⟩:Ge G) t v=asT (⟨p.n,p.enc,fun i x=>[],fun i l=>p.mk' d i l⟩:Ge G) t v:=by
    intro t
    induction t with
    | list t ih=>
     intro v
     show asL t _ v=asL t _ v
     congr 1
     funext cs
     exact ih _
    | arr n t ih=>
     intro v
     show asR n t _ v=asR n t _ v
     congr 1
     funext cs
     exact ih _
    | ptr t ih=>
     intro v
     show asP _ v=asP _ v
     congr 1
     funext cs
     exact ih _
    | optr t ih=>
     intro v
     show asQ t _ v=asQ t _ v
     congr 1
     funext cs
     exact ih _
    | _=>intro v;rfl
   have cm:∀ (ts:List Ty) (l:List (TV G)),mkDL (⟨p.n,p.enc,fun i x=>(p.enc i x).map .raw,fun i l=>p.mk' d i l⟩:Ge G) ts l=mkDL (⟨p.n,p.enc,fun i x=>[],fun i l=>p.mk' d i l⟩:Ge G) ts l:=by
    intro ts
    induction ts with
    | nil=>intro l;rfl
    | cons t ts ih=>
     intro l
     cases ts with
     | nil=>
      cases l with
      | nil=>rfl
      | cons v l=>cases l with
       | nil=>exact cg t v
       | cons _ _=>rfl
     | cons u r=>
      cases l with
      | nil=>rfl
      | cons v l=>
       show (match asT _ t v with | some x=>(match mkDL _ (u::r) l with | some y=>some (x,y) | none=>none) | none=>none)=(match asT _ t v with | some x=>(match mkDL _ (u::r) l with | some y=>some (x,y) | none=>none) | none=>none)
       rw [cg t v,ih l]
   rw [cm];exact hw
  exact key _ rfl (hg0 _ hraw) hw'
theorem cellsDL_ok {g:Ge G} (hg:g.Ok) (ln:Nat→Nat):∀ (ts:List Ty) (x:DL G ts),TV.avs g ln (cellsDL g ts x)=encDL g ts x
 | [],_=>rfl
 | [t],x=>view_avs hg ln t x
 | t::u::r,x=>by
  show TV.avs g ln (_++_)=_
  rw [avs_app,view_avs hg ln t x.1,cellsDL_ok hg ln (u::r) x.2];rfl
theorem view'_ok {p:Sp G} (hp:p.Ok):∀ (d i:Nat) (x:G i) (ln:Nat→Nat),TV.avs p.ge ln (p.view' d i x)=p.enc i x
 | 0,i,x,ln=>raw_avs p.ge ln _
 | d+1,i,x,ln=>by
  have hg:Ge.Ok (⟨p.n,p.enc,fun i x=>p.view' d i x,fun _ _=>none⟩:Ge G):=
   ⟨hp.enc,fun i x ln=>(avs_congr (g:=⟨p.n,p.enc,fun i x=>p.view' d i x,fun _ _=>none⟩) (h:=p.ge) rfl ln _).trans (view'_ok hp d i x ln),fun i l x ln h=>nomatch h⟩
  have h1:=cellsDL_ok hg ln (p.ft i) (p.to i x)
  have h2:=avs_congr (g:=⟨p.n,p.enc,fun i x=>p.view' d i x,fun _ _=>none⟩) (h:=p.ge) rfl ln (cellsDL ⟨p.n,p.enc,fun i x=>p.view' d i x,fun _ _=>none⟩ (p.ft i) (p.to i x))
  have h3:=encDL_congr (g:=⟨p.n,p.enc,fun i x=>p.view' d i x,fun _ _=>none⟩) (h:=p.ge) rfl (p.ft i) (p.to i x)
  rw [hp.e,←h3,←h1,h2];rfl
theorem Sp.ge_ok {p:Sp G} (hp:p.Ok):p.ge.Ok:=⟨hp.enc,fun i x ln=>view'_ok hp 6 i x ln,fun i l x ln h=>mk'_ok hp 6 i l x ln h⟩
end
end Dnm
end
