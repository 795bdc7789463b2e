/- Parts of my machine and its laws, joined: DnL DnM. No condition. -/
import Derived.Test.YtafgdbaekppjcaaGreatDoorDnK
set_option linter.unusedSectionVars false
set_option linter.unusedVariables false
set_option linter.unusedSimpArgs false
section
namespace nT
open Go hiding Obj mark
open Go.Pl Go.Am Go.Am.As
set_option linter.unusedVariables false
section
variable {G:Nat->Type} {R:Type}
def Qy (X:Cx G) (rec:Rec G) (a:An) (s:DS G) (gx:RX) (c3:C3) (K:Kn G R):Option R:=match Mh (s.rx X.gl gx) with
 | some p=>(match X.fns p.1 with
  | some rf=>if (Nat.beq (p.2.length+1) rf.nargs&&Nat.ble rf.nargs rf.ntmps)&&(FD s.fr.length s.H&&s.fits s.H.length (.lp .ready s.fr.length)) then
   let ret:DS G->Option R:=fun s'=>match oq X.g s' rf.results with
    | some _=>(match s'.H[s.H.length]? with
     | some (.lp st fi)=>(match (s'.hN s.H.length .dead).leave s.fr.length with
      | some s2=>if Nat.beq fi s.fr.length then (match st with
       | .ready=>K.n s2
       | .done e=>K.at e s2
       | .busy=>none) else none
      | none=>none)
     | _=>none)
    | none=>none
   rec rf.body a (s.H.length+1) ⟨rf.ntmps,eX (.raw (.eI s.H.length)::p.2) 0,s.H++[.lp .ready s.fr.length],s.fr++[(s.sz,s.sl,c3)]⟩ ⟨ret,fun _ _=>none,ret⟩
   else none
  | none=>none)
 | none=>none
def Cv (X:Cx G) (CM:List (dz G)) (rec:Rec G):RC->{R:Type}->An->Nat->DS G->Kn G R->Option R
 | .bad,_,_,_,_,_=>none
 | .skip,_,_,_,s,K=>K.n s
 | .ret,_,_,_,s,K=>K.r s
 | .exit i,_,_,_,s,K=>K.x i s
 | .seq p q,_,a,b,s,K=>jn X.g (b9 p) (fun a s K=>Cv X CM rec p a b s K) (a.sub 0) s ⟨fun s'=>jn X.g (b9 q) (fun a s K=>Cv X CM rec q a b s K) (a.sub 1) s' K,K.x,K.r⟩
 | .cond x p q,_,a,b,s,K=>(match y8 (s.rx X.gl x) with
  | some c=>cond c (jn X.g (b9 p) (fun a s K=>Cv X CM rec p a b s K) (a.sub 0) s K) (jn X.g (b9 q) (fun a s K=>Cv X CM rec q a b s K) (a.sub 1) s K)
  | none=>none)
 | .block i p,_,a,b,s,K=>jn X.g (b9 p) (fun a s K=>Cv X CM rec p a b s K) a s ⟨K.n,fun j s'=>bif Nat.beq j i then K.n s' else K.x j s',K.r⟩
 | .loop p,_,a,b,s,K=>XQ X.g (b9 p) (fun a s K=>jn X.g (b9 p) (fun a s K=>Cv X CM rec p a b s K) a s K) a s K
 | .sZ ops,_,a,_,s,K=>pn X rec false ops 0 a s K.n
 | .draw ops,_,a,_,s,K=>pn X rec true ops 0 a s K.n
 | .iY ops bf,_,a,_,s,K=>dX X rec bf ops 0 a [] [] s K.n
 | .jI ops k ps,_,_,_,s,K=>Lp X CM rec s.H.length ops ⟨s.sz,s.sl,s.H++List.replicate k .gB,s.fr⟩ fun s' fs=>if fN fs ps then K.n s' else none
 | .gh [] (.block i (.loop p)) post,_,a,b,s,K=>XS X.g (b9 p) b i post (fun a s K=>jn X.g (b9 p) (fun a s K=>Cv X CM rec p a b s K) a s K) a s K
 | .gh pre p post,_,a,b,s,K=>(match Cu X.g b pre s with
  | some s0=>jn X.g (b9 p) (fun a s K=>Cv X CM rec p a b s K) a s0 ⟨fun s'=>S4 X.g b post s' K.n,K.x,K.r⟩
  | none=>none)
 | .yB gx ps as body,_,a,_,s,K=>Qy X rec a s gx (ps,as,body) K
def Hj (X:Cx G) (CM:List (dz G)):Nat->{R:Type}->RC->An->Nat->DS G->Kn G R->Option R
 | 0,_,_,_,_,_,_=>none
 | n+1,_,c,a,b,s,K=>jn X.g (b9 c) (fun a s K=>Cv X CM (fun c a b s K=>Hj X CM n c a b s K) c a b s K) a s K
theorem Rz {E:Env} {hp:Nat->Bool} {gx:RX} {ps:List Nat} {as body:RC} {b:Nat} {Q:Ex->ST->Prop} {s:ST} {f:Nat} {cap:List AV} {rf:RF} (hx:fI E.aI s.tmps gx= .fn f cap) (hf:E.fns f=some rf) (hn:cap.length+1=rf.nargs) (hm:rf.nargs<=rf.ntmps)
 (h:WP E hp rf.body (s.H.length+1) (fun e s'=>match e with
  | .exit _=>False
  | _=>(∃ l,bQ rf.results s'=some l)/\∃ ex,ke s'.H s.H.length=some ex/\Q ex ⟨s.tmps,s'.H.set s.H.length .dead⟩) ⟨⟨rf.ntmps,T.jC (.eI s.H.length::cap) 0⟩,s.H++[.lp .ready s.tmps.toL ps as body]⟩):WP E hp (.yB gx ps as body) b Q s:=by
 obtain ⟨n,e,s',h1,h2⟩:=h;have key:((∃ l,bQ rf.results s'=some l)/\∃ ex,ke s'.H s.H.length=some ex/\Q ex ⟨s.tmps,s'.H.set s.H.length .dead⟩)->(e= .normal\/e= .ret)->WP E hp (.yB gx ps as body) b Q s:=by
  rintro ⟨⟨l,hl⟩,ex,q1,q2⟩ he;refine ⟨n+1,ex,_,?_,q2⟩;have hc:jE E.fns (aq E hp n) (some f) (.eI s.H.length::cap) (s.H++[.lp .ready s.tmps.toL ps as body])=some (oneOf l,s'.H):=by
   have hst:eL rf (.eI s.H.length::cap)=⟨rf.ntmps,T.jC (.eI s.H.length::cap) 0⟩:=rfl;have hlen:(s.H++[Obj.lp .ready s.tmps.toL ps as body]).length=s.H.length+1:=by simp
   simp only [jE,hf,List.length_cons,hn,hm,and_self,if_true,hst,hlen,h1];rcases he with rfl | rfl<;>simp only [hl]
  rw [aq,hx];dsimp only;rw [hc];dsimp only;rw [q1]
 cases e with
 | exit i=>exact h2.elim
 | normal=>exact key h2 (.inl rfl)
 | ret=>exact key h2 (.inr rfl)
theorem M4 {X:Cx G} {E:Env} (hX:X.Ok E) {rec:Rec G} (hr:mm E X.hp X.g rec) {a:An} {b:Nat} {s:DS G} {gx:RX} {ps:List Nat} {as body:RC} {K:Kn G R} {r:R} (h:Qy X rec a s gx (ps,as,body) K=some r):Sat E X.hp X.g (.yB gx ps as body) b s K r:=by
 unfold Qy at h;split at h
 case h_2=>cases h
 rename_i p hp;split at h
 case h_2=>cases h
 rename_i rf hf;split at h
 case isFalse=>cases h
 rename_i hc;simp only [Bool.and_eq_true] at hc;have e1:=Nat.eq_of_beq_eq_true hc.1.1;have e2:=Nat.le_of_ble_eq_true hc.1.2;rw [hX.fns] at hf;have hx:fI E.aI (s.tm X.g) gx= .fn p.1 (TV.aR X.g s.ln p.2):=by rw [DS.lI,<-hX.gl,zy hp];rfl
 have TB:(s.Hv X.g).length=s.H.length:=fZ X.g s;refine Rz (hx:=hx) hf (by rw [dh];exact e1) e2 ?_;have hw:=hr _ _ _ _ _ _ h;obtain ⟨k1,k2,k3⟩:=fq (g:=X.g) hc.2.2;have hno:(s.dY s.H.length (.lp .ready s.fr.length)).H=s.H++[.lp .ready s.fr.length]:=by
  unfold DS.dY;dsimp only;rw [if_neg (Nat.lt_irrefl _)]
 have XT:(s.FR X.g).length=s.fr.length:=De X.g s;have yD:(⟨rf.ntmps,eX (.raw (.eI s.H.length)::p.2) 0,s.H++[.lp .ready s.fr.length],s.fr++[(s.sz,s.sl,(ps,as,body))]⟩:DS G).ln=s.ln:=by
  show jD _=_;rw [<-hno];have XU:=hc.2.2;unfold DS.fits at XU;rw [Bool.and_eq_true] at XU;exact uV (Nat.le_refl _) rfl (by simpa using XU.2)
 have wB:(⟨rf.ntmps,eX (.raw (.eI s.H.length)::p.2) 0,s.H++[.lp .ready s.fr.length],s.fr++[(s.sz,s.sl,(ps,as,body))]⟩:DS G).FR X.g=s.FR X.g++[(s.tm X.g,(ps,as,body))]:=by
  unfold DS.FR;rw [yD,List.map_append];rfl
 have hst:(⟨rf.ntmps,eX (.raw (.eI s.H.length)::p.2) 0,s.H++[.lp .ready s.fr.length],s.fr++[(s.sz,s.sl,(ps,as,body))]⟩:DS G).st X.g=⟨⟨rf.ntmps,T.jC (.eI s.H.length::TV.aR X.g s.ln p.2) 0⟩,s.Hv X.g++[.lp .ready (s.tm X.g).toL ps as body]⟩:=by
  unfold DS.st DS.tm DS.Hv;rw [yD,wB,kr];congr 1;show (s.H++[TO.lp .ready s.fr.length]).map _=_;rw [List.map_append];have h1:s.H.map (TO.av X.g s.ln (s.FR X.g++[(s.tm X.g,(ps,as,body))]))=s.H.map (TO.av X.g s.ln (s.FR X.g)):=by
   refine mB (n:=s.fr.length) (fun i hi=>?_) hc.2.1;rw [List.getElem?_append_left (by rw [XT];exact hi)]
  rw [h1];have h2:(s.FR X.g++[(s.tm X.g,((ps,as,body):C3))])[s.fr.length]?=some (s.tm X.g,(ps,as,body)):=by
   rw [<-XT,List.getElem?_append_right (Nat.le_refl _),Nat.sub_self];rfl
  show _++[TO.av X.g s.ln _ (TO.lp .ready s.fr.length)]=_;simp only [TO.av,h2];rfl
 rw [hst] at hw;show WP E X.hp rf.body ((s.Hv X.g).length+1) _ ⟨⟨rf.ntmps,T.jC (.eI (s.Hv X.g).length::_) 0⟩,_⟩;rw [TB];have fin:∀ {s':DS G} {σ:ST},s'.st X.g=σ->s'.FR X.g=s.FR X.g++[(s.tm X.g,(ps,as,body))]->
  (match oq X.g s' rf.results with
   | some _=>(match s'.H[s.H.length]? with
    | some (.lp st fi)=>(match (s'.hN s.H.length .dead).leave s.fr.length with
     | some s2=>if Nat.beq fi s.fr.length then (match st with
      | .ready=>K.n s2
      | .done e=>K.at e s2
      | .busy=>none) else none
     | none=>none)
    | _=>none)
   | none=>none)=some r->(∃ l,bQ rf.results σ=some l)/\∃ ex,ke σ.H s.H.length=some ex/\∃ s2:DS G,s2.st X.g=⟨s.tm X.g,σ.H.set s.H.length .dead⟩/\s2.FR X.g=s.FR X.g/\K.at ex s2=some r:=by
  intro s' σ h1 h2 h3;split at h3
  case h_2=>cases h3
  rename_i l hl;split at h3
  case h_2=>cases h3
  rename_i st fi hlp;split at h3
  case h_2=>cases h3
  rename_i s2 wE;split at h3
  case isFalse=>cases h3
  rename_i S6;have S6:=Nat.eq_of_beq_eq_true S6;subst S6;obtain ⟨q1,q2,q3,q4⟩:=eU (g:=X.g) (o':= .dead) hlp rfl;obtain ⟨v1,v2,v3,v4⟩:=uW (g:=X.g) (s:=s) wE (by rw [q3,h2]);have hH:σ.H=s'.Hv X.g:=by rw [<-h1];rfl
  have Ur:s2.st X.g=⟨s.tm X.g,σ.H.set s.H.length .dead⟩:=by
   show (⟨s2.tm X.g,s2.Hv X.g⟩:ST)=_;rw [v1,v4,q4,hH];rfl
  have hF:(s'.FR X.g)[s.fr.length]?=some (s.tm X.g,(ps,as,body)):=by
   rw [h2,<-XT,List.getElem?_append_right (Nat.le_refl _),Nat.sub_self];rfl
  have Us:σ.H[s.H.length]?=some (.lp st (s.tm X.g).toL ps as body):=by
   rw [hH,bp hlp];simp only [TO.av,hF]
  refine ⟨⟨_,by rw [<-h1];exact kY hX.g hl⟩,?_⟩
  cases st with
  | ready=>exact ⟨.normal,by unfold ke;rw [Us],s2,Ur,v2,h3⟩
  | done e=>exact ⟨e,by unfold ke;rw [Us],s2,Ur,v2,h3⟩
  | busy=>cases h3
 refine hw.mono ?_;rintro e σ ⟨s',p1,p2,p3⟩;rw [wB] at p2
 cases e with
 | exit i=>cases p3
 | normal=>
  obtain ⟨h1,ex,h2,s2,h3,h4,h5⟩:=fin p1 p2 p3;refine ⟨h1,ex,?_,s2,?_,h4,h5⟩
  ·show ke σ.H (s.Hv X.g).length=_;rw [TB];exact h2
  ·rw [h3];show (⟨_,_⟩:ST)=⟨s.tm X.g,σ.H.set (s.Hv X.g).length .dead⟩;rw [TB]
 | ret=>
  obtain ⟨h1,ex,h2,s2,h3,h4,h5⟩:=fin p1 p2 p3;refine ⟨h1,ex,?_,s2,?_,h4,h5⟩
  ·show ke σ.H (s.Hv X.g).length=_;rw [TB];exact h2
  ·rw [h3];show (⟨_,_⟩:ST)=⟨s.tm X.g,σ.H.set (s.Hv X.g).length .dead⟩;rw [TB]
theorem kW {X:Cx G} {E:Env} (hX:X.Ok E) {CM:List (dz G)} (hM:∀ c∈CM,c.Ok E X.hp X.g) {rec:Rec G} (hr:mm E X.hp X.g rec):∀ (c:RC) {R:Type} (a:An) (b:Nat) (s:DS G) (K:Kn G R) (r:R),Cv X CM rec c a b s K=some r->Sat E X.hp X.g c b s K r
 | .bad,R,a,b,s,K,r,h=>by cases h
 | .skip,R,a,b,s,K,r,h=>M6.2 ⟨s,rfl,rfl,h⟩
 | .ret,R,a,b,s,K,r,h=>RA.2 ⟨s,rfl,rfl,h⟩
 | .exit i,R,a,b,s,K,r,h=>M7.2 ⟨s,rfl,rfl,h⟩
 | .seq p q,R,a,b,s,K,r,h=>by
  have h1:=mo hX.g (c:=p) (b:=b) (fun a s K r h=>kW hX hM hr p a b s K r h) _ _ _ _ h;refine RB.2 (h1.mono ?_);rintro e σ ⟨s',p1,p2,p3⟩
  cases e with
  | normal=>
   have h2:=mo hX.g (c:=q) (b:=b) (fun a s K r h=>kW hX hM hr q a b s K r h) _ _ _ _ p3;subst p1;refine h2.mono ?_;rintro e σ ⟨s'',q1,q2,q3⟩;exact ⟨s'',q1,by rw [q2,p2],q3⟩
  | exit i=>exact ⟨s',p1,p2,p3⟩
  | ret=>exact ⟨s',p1,p2,p3⟩
 | .cond x p q,R,a,b,s,K,r,h=>by
  rw [Cv] at h;split at h
  case h_2=>cases h
  rename_i c hc;have hx:fI E.aI (s.st X.g).tmps x= .bool c:=by
   show fI E.aI (s.tm X.g) x=_;rw [DS.lI,<-hX.gl,rJ hc];rfl
  refine M8.2 ?_;rw [hx]
  cases c with
  | true=>exact mo hX.g (c:=p) (b:=b) (fun a s K r h=>kW hX hM hr p a b s K r h) _ _ _ _ h
  | false=>exact mo hX.g (c:=q) (b:=b) (fun a s K r h=>kW hX hM hr q a b s K r h) _ _ _ _ h
 | .block i p,R,a,b,s,K,r,h=>by
  have h1:=mo hX.g (c:=p) (b:=b) (fun a s K r h=>kW hX hM hr p a b s K r h) _ _ _ _ h;refine uX.2 (h1.mono ?_);rintro e σ ⟨s',p1,p2,p3⟩
  cases e with
  | normal=>exact ⟨s',p1,p2,p3⟩
  | ret=>exact ⟨s',p1,p2,p3⟩
  | exit j=>
   have p3:(bif Nat.beq j i then K.n s' else K.x j s')=some r:=p3;dsimp only;by_cases hj:j=i
   ·subst hj;rw [if_pos rfl];rw [show Nat.beq j j=true from Nat.beq_refl j] at p3;exact ⟨s',p1,p2,p3⟩
   ·rw [if_neg hj];have:Nat.beq j i=false:=by
     cases hb:Nat.beq j i with
     | false=>rfl
     | true=>exact (hj (Nat.eq_of_beq_eq_true hb)).elim
    rw [this] at p3;exact ⟨s',p1,p2,p3⟩
 | .loop p,R,a,b,s,K,r,h=>RD hX.g (c:=p) (b:=b) (f:=fun a s K=>jn X.g (b9 p) (fun a s K=>Cv X CM rec p a b s K) a s K) (fun a s K r h=>mo hX.g (c:=p) (b:=b) (fun a s K r h=>kW hX hM hr p a b s K r h) _ _ _ _ h) h
 | .sZ ops,R,a,b,s,K,r,h=>RE.2 (tA hX hr ops h fun s' h1 h2=>⟨s',rfl,h1,h2⟩)
 | .draw ops,R,a,b,s,K,r,h=>M9.2 (tA hX hr ops h fun s' h1 h2=>⟨s',rfl,h1,h2⟩)
 | .iY ops bf,R,a,b,s,K,r,h=>Kh (AB hX hr ops .nil h fun s' h1 h2=>⟨s',rfl,h1,h2⟩)
 | .jI ops k ps,R,a,b,s,K,r,h=>by
  have yD:(⟨s.sz,s.sl,s.H++List.replicate k .gB,s.fr⟩:DS G).ln=s.ln:=by
   funext j
   show jD _ j=jD _ j;unfold jD;by_cases hj:j < s.H.length
   ·rw [List.getElem?_append_left hj]
   ·rw [List.getElem?_append_right (by omega),List.getElem?_eq_none (by omega:s.H.length<=j)];rw [List.getElem?_replicate];split
    ·rename_i o ho;split at ho
     ·injection ho with ho;subst ho;rfl
     ·cases ho
    ·rfl
  have wB:(⟨s.sz,s.sl,s.H++List.replicate k .gB,s.fr⟩:DS G).FR X.g=s.FR X.g:=by unfold DS.FR;rw [yD]
  have htm:(⟨s.sz,s.sl,s.H++List.replicate k .gB,s.fr⟩:DS G).tm X.g=s.tm X.g:=by unfold DS.tm;rw [yD]
  have hHv:(⟨s.sz,s.sl,s.H++List.replicate k .gB,s.fr⟩:DS G).Hv X.g=s.Hv X.g++List.replicate k .gB:=by
   unfold DS.Hv;rw [wB,yD];show (s.H++List.replicate k TO.gB).map _=_;rw [List.map_append,List.map_replicate];rfl
  have hw:=Df hX hM (E:=E) (Q:=fun t H fs=>fN fs ps=true/\∃ s':DS G,s'.st X.g=⟨t,H⟩/\s'.FR X.g=s.FR X.g/\K.n s'=some r) ops h (fun s' fs h1 h2=>by
   split at h2
   case isFalse=>cases h2
   rename_i hp;exact ⟨hp,s',rfl,by rw [h1,wB],h2⟩)
  rw [htm,hHv] at hw;obtain ⟨n,t',H',fs,h1,h2,s',h3,h4,h5⟩:=hw;refine ⟨n+1,.normal,⟨t',H'⟩,?_,s',h3,h4,h5⟩;show (match fW E.aI (jw E.fns (aq E X.hp n)) (s.Hv X.g).length ops (s.tm X.g) (s.Hv X.g++List.replicate k .gB) with
   | some (t,H,fs)=>if fN fs ps=true then some (Ex.normal,(⟨t,H⟩:ST)) else none
   | none=>none)=_
  rw [fZ,h1];simp only [h2,if_true]
 | .gh pre p post,R,a,b,s,K,r,h=>by
  by_cases he:∃ i q,pre=[]/\p= .block i (.loop q)
  ·obtain ⟨i,q,h1,h2⟩:=he;have hlt:sizeOf q < sizeOf p:=by rw [h2];simp;omega
   have ih:=fun {R:Type} (a:An) (s:DS G) (K:Kn G R) (r:R) (h:Cv X CM rec q a b s K=some r)=>kW hX hM hr q a b s K r h
   rw [h1,h2] at h ⊢;rw [Cv] at h;exact RG hX.g hX.wk (c:=q) (b:=b) (f:=fun a s K=>jn X.g (b9 q) (fun a s K=>Cv X CM rec q a b s K) a s K) (fun a s K r h=>mo hX.g (c:=q) (b:=b) (fun a s K r h=>ih a s K r h) _ _ _ _ h) h
  rw [Cv] at h
  case x_7=>exact fun i q h1 h2=>he ⟨i,q,h1,h2⟩
  split at h
  case h_2=>cases h
  rename_i s0 h0;obtain ⟨g1,g2⟩:=y6 hX.g hX.wk h0;have h1:=mo hX.g (c:=p) (b:=b) (fun a s K r h=>kW hX hM hr p a b s K r h) _ _ _ _ h;refine HU.2 ?_;rw [g1];refine h1.mono ?_;rintro e σ ⟨s',p1,p2,p3⟩
  cases e with
  | normal=>
   have p3:S4 X.g b post s' K.n=some r:=p3;obtain ⟨s2,g3,g4,p3⟩:=Dd hX.g hX.wk p3;subst p1;dsimp only;rw [g3];exact ⟨s2,rfl,by rw [g4,p2,g2],p3⟩
  | exit i=>exact ⟨s',p1,by rw [p2,g2],p3⟩
  | ret=>exact ⟨s',p1,by rw [p2,g2],p3⟩
 | .yB gx ps as body,R,a,b,s,K,r,h=>M4 hX hr h
theorem tB {X:Cx G} {E:Env} (hX:X.Ok E) {CM:List (dz G)} (hM:∀ c∈CM,c.Ok E X.hp X.g):∀ n,mm E X.hp X.g (fun c a b s K=>Hj X CM n c a b s K)
 | 0=>fun c a b s K r h=>by cases h
 | n+1=>fun c a b s K r h=>mo hX.g (c:=c) (b:=b) (fun a s K r h=>kW hX hM (tB hX hM n) c a b s K r h) _ _ _ _ h
def tT:Nat->TV G->List (TV G)
 | 1,v=>[v]
 | _,v=>match v with
  | .bk l=>l
  | v=>[v]
def Qz (X:Cx G) (CM:List (dz G)) (n:Nat) (rf:RF) (args:List Sh) (ts rs:List Ty) (a:An) (x:DL G ts):Option (DL G rs):=
 let vs:=ot X.g args (aL X.g ts x);let fin:DS G->Option (DL G rs):=fun s'=>match oq X.g s' rf.results with
  | some l=>(match z9 s'.H 6 (wM l) with
   | some w=>if Nat.beq (tT rs.length w).length rs.length then lX X.g rs (tT rs.length w) else none
   | none=>none)
  | none=>none
 if Nat.beq vs.length rf.nargs&&Nat.ble rf.nargs rf.ntmps then Hj X CM n rf.body a 0 ⟨rf.ntmps,eX vs 0,[],[]⟩ ⟨fin,fun _ _=>none,fin⟩ else none
theorem Na {g:Ge G} {ln:Nat->Nat} {n:Nat} {v:TV G} (h:(tT n v).length=n):oneOf (TV.aR g ln (tT n v))=v.av g ln:=by
 match n,v with
 | 1,v=>rfl
 | 0,.bk []=>rfl
 | 0,.bk (_::_)=>simp [tT] at h
 | n+2,.bk []=>simp [tT] at h
 | n+2,.bk [_]=>simp [tT] at h
 | n+2,.bk (a::b::l)=>rfl
 | 0,.int .. | 0,.bool _ | 0,.str _ | 0,.bg .. | 0,.fS .. | 0,.oY _ | 0,.agg _ | 0,.bV _ | 0,.fn .. | 0,.po .. | 0,.own _ | 0,.pe .. | 0,.pa .. | 0,.sa .. | 0,.arr .. | 0,.dB .. | 0,.raw _=>simp [tT] at h
 | n+2,.int .. | n+2,.bool _ | n+2,.str _ | n+2,.bg .. | n+2,.fS .. | n+2,.oY _ | n+2,.agg _ | n+2,.bV _ | n+2,.fn .. | n+2,.po .. | n+2,.own _ | n+2,.pe .. | n+2,.pa .. | n+2,.sa .. | n+2,.arr .. | n+2,.dB .. | n+2,.raw _=>simp [tT] at h
theorem Nb {X:Cx G} {E:Env} (hX:X.Ok E) {CM:List (dz G)} (hM:∀ c∈CM,c.Ok E X.hp X.g) {n f:Nat} {rf:RF} (hf:E.fns f=some rf) {args:List Sh} {ts rs:List Ty} {a:An} {x:DL G ts} {r:DL G rs} (h:Qz X CM n rf args ts rs a x=some r):
 Pt E X.hp f (TV.aR X.g (fun _=>0) (ot X.g args (aL X.g ts x))) (oneOf (tR X.g rs r)):=by
 unfold Qz at h;dsimp only at h;split at h
 case isFalse=>cases h
 rename_i hc;rw [Bool.and_eq_true] at hc;have e1:=Nat.eq_of_beq_eq_true hc.1;have e2:=Nat.le_of_ble_eq_true hc.2;refine VF hf (by rw [dh];exact e1) e2 ?_;have hw:=tB hX hM n _ _ _ _ _ _ h;have hst:(⟨rf.ntmps,eX (ot X.g args (aL X.g ts x)) 0,[],[]⟩:DS G).st X.g=⟨eL rf (TV.aR X.g (fun _=>0) (ot X.g args (aL X.g ts x))),[]⟩:=by
  show (⟨⟨_,dx X.g _ _⟩,[]⟩:ST)=_;rw [kr];rfl
 rw [hst] at hw;have fin:∀ {s':DS G} {σ:ST},s'.st X.g=σ->(match oq X.g s' rf.results with
  | some l=>(match z9 s'.H 6 (wM l) with
   | some w=>if Nat.beq (tT rs.length w).length rs.length then lX X.g rs (tT rs.length w) else none
   | none=>none)
  | none=>none)=some r->∃ l,bQ rf.results σ=some l/\pack σ.H (oneOf l)=some (oneOf (tR X.g rs r)):=by
  intro s' σ h1 h2;split at h2
  case h_2=>cases h2
  rename_i l hl;split at h2
  case h_2=>cases h2
  rename_i w hw;split at h2
  case isFalse=>cases h2
  rename_i hlen;have hlen:=Nat.eq_of_beq_eq_true hlen;refine ⟨_,by rw [<-h1];exact kY hX.g hl,?_⟩;have h3:=kS hX.g 6 hw;rw [tC] at h3;rw [<-jM hX.g s'.ln _ _ _ h2,Na hlen,<-h1];exact h3
 refine hw.mono ?_;rintro e σ ⟨s',p1,p2,p3⟩
 cases e with
 | exit i=>cases p3
 | normal=>exact fin p1 p3
 | ret=>exact fin p1 p3
def HV (X:Cx G) (CM:List (dz G)) (n:Nat) (rf:RF) (i:yC) (ts:List Ty) (o1 o2:dj) (a:An) (x:DL G ts):Option (DL G o1.ts⊕DL G o2.ts):=
 let s0:=i.st X.g rf.ntmps (aL X.g ts x);let fin:DS G->Option (DL G o1.ts⊕DL G o2.ts):=fun s'=>match oq X.g s' rf.results with
  | some l=>(match o1.coll X.g l s' with
   | some w=>some (.inl w)
   | none=>(match o2.coll X.g l s' with
    | some w=>some (.inr w)
    | none=>none))
  | none=>none
 if Nat.beq i.sl.length rf.nargs&&(Nat.ble rf.nargs rf.ntmps&&pN s0.fr) then Hj X CM n rf.body a s0.H.length s0 ⟨fin,fun _ _=>none,fin⟩ else none
theorem Ki {X:Cx G} {E:Env} (hX:X.Ok E) {CM:List (dz G)} (hM:∀ c∈CM,c.Ok E X.hp X.g) {n f:Nat} {rf:RF} (hf:E.fns f=some rf) {i:yC} {ts:List Ty} {o1 o2:dj} {a:An} {x:DL G ts} {u:DL G o1.ts⊕DL G o2.ts} (h:HV X CM n rf i ts o1 o2 a x=some u):dj.XD E X.hp X.g f (i.st X.g 0 (aL X.g ts x)) o1 o2 u:=by
 unfold HV at h;dsimp only at h;split at h
 case isFalse=>cases h
 rename_i hc;simp only [Bool.and_eq_true] at hc;have e1:=Nat.eq_of_beq_eq_true hc.1;have e2:=Nat.le_of_ble_eq_true hc.2.1;obtain ⟨m,e,σ,h1,s',p1,p2,p3⟩:=tB hX hM n _ _ _ _ _ _ h;have hst:(i.st X.g rf.ntmps (aL X.g ts x)).st X.g=⟨eL rf (TV.aR X.g (i.st X.g 0 (aL X.g ts x)).ln (vals (i.st X.g 0 (aL X.g ts x)).sl)),(i.st X.g 0 (aL X.g ts x)).Hv X.g⟩:=by
  show (⟨⟨rf.ntmps,dx X.g (i.st X.g 0 (aL X.g ts x)).ln (i.st X.g 0 (aL X.g ts x)).sl⟩,_⟩:ST)=⟨⟨rf.ntmps,T.jC _ 0⟩,_⟩;have hk:(i.st X.g 0 (aL X.g ts x)).sl=eX (vals (i.st X.g 0 (aL X.g ts x)).sl) 0:=xE i.sl 0 _;rw [<-kr,<-hk];rfl
 rw [hst] at h1;have hlen:(TV.aR X.g (i.st X.g 0 (aL X.g ts x)).ln (vals (i.st X.g 0 (aL X.g ts x)).sl)).length=rf.nargs:=by
  rw [dh,<-e1];exact AZ i.sl 0 _
 have hb:((i.st X.g 0 (aL X.g ts x)).Hv X.g).length=(i.st X.g rf.ntmps (aL X.g ts x)).H.length:=by rw [fZ];rfl
 have key:(match oq X.g s' rf.results with
  | some l=>(match o1.coll X.g l s' with
   | some w=>some (.inl w)
   | none=>(match o2.coll X.g l s' with
    | some w=>some (.inr w)
    | none=>none))
  | none=>none)=some u->(e= .normal\/e= .ret)->dj.XD E X.hp X.g f (i.st X.g 0 (aL X.g ts x)) o1 o2 u:=by
  intro h3 he;split at h3
  case h_2=>cases h3
  rename_i l hl;have hr:=kY hX.g hl;rw [p1] at hr;have Lz:jE E.fns (aq E X.hp m) (some f) (TV.aR X.g (i.st X.g 0 (aL X.g ts x)).ln (vals (i.st X.g 0 (aL X.g ts x)).sl)) ((i.st X.g 0 (aL X.g ts x)).Hv X.g)=some (oneOf (TV.aR X.g s'.ln l),s'.Hv X.g):=by
   simp only [jE,hf,hlen,e2,and_self,if_true];rw [hb,h1];rcases he with rfl | rfl<;>simp only [hr]<;>rw [<-p1]<;>rfl
  have fin:∀ {o:dj} {w:DL G o.ts},o.coll X.g l s'=some w->dj.Is E X.hp X.g f (i.st X.g 0 (aL X.g ts x)) o (aL X.g o.ts w):=by
   intro o w hw;obtain ⟨q1,q2,q3⟩:=dj.pO hX.g hw;have wB:(⟨0,[],o.mem X.g (aL X.g o.ts w),(i.st X.g 0 (aL X.g ts x)).fr⟩:DS G).FR X.g=(i.st X.g 0 (aL X.g ts x)).FR X.g:=oM (g:=X.g) hc.2.2;refine ⟨m,?_,wB⟩;rw [Lz,q1,q2];refine congrArg (fun H=>some (oneOf (TV.aR X.g s'.ln l),H)) ?_;show _=(o.mem X.g (aL X.g o.ts w)).map (TO.av X.g (jD (o.mem X.g (aL X.g o.ts w))) (DS.FR X.g ⟨0,[],o.mem X.g (aL X.g o.ts w),(i.st X.g 0 (aL X.g ts x)).fr⟩));rw [wB,q1,q3,<-show s'.FR X.g=(i.st X.g 0 (aL X.g ts x)).FR X.g from p2];rfl
  split at h3
  ·rename_i w hw;injection h3 with h3;subst h3
   exact fin hw
  ·split at h3
   case h_2=>cases h3
   rename_i w hw;injection h3 with h3;subst h3
   exact fin hw
 cases e with
 | exit j=>cases p3
 | normal=>exact key p3 (.inl rfl)
 | ret=>exact key p3 (.inr rfl)
def HW (X:Cx G) (CM:List (dz G)) (n:Nat) (rf:RF) (args:List Sh) (ts:List Ty) (t:Ty) (a:An) (x:DL G ts):Option (List (t.D G)):=
 let vs:=ot X.g args (aL X.g ts x);let fin:DS G->Option (List (t.D G)):=fun s'=>match oq X.g s' rf.results with
  | some [.own id]=>(match s'.H[id]? with
   | some (.bg fl u l)=>if h:u=t then (if fl.free then some (h▸l) else none) else none
   | some (.cN fl sz es)=>if fl.free&&Nat.beq sz (t.n X.g) then nV X.g t es else none
   | _=>none)
  | _=>none
 if Nat.beq vs.length rf.nargs&&Nat.ble rf.nargs rf.ntmps then Hj X CM n rf.body a 0 ⟨rf.ntmps,eX vs 0,[],[]⟩ ⟨fin,fun _ _=>none,fin⟩ else none
theorem Nc {fl:Fl} (h:fl.free=true):fl= .norm\/fl= .nil:=by cases fl<;>first | exact .inl rfl | exact .inr rfl | cases h
theorem xP {H:List Obj} {id sz:Nat} {fl:Fl} {es:List (List AV)} (hH:H[id]?=some (.live fl sz es)) (hf:fl.free=true) (hb:AV.bM 0 es=true) (hne:es≠[]):pH H (.own id es.length 0 es.length)=some (.bk [.ax 0 0 sz 0,.ro es]):=by
 unfold pH;simp only [hH];rw [if_pos ⟨trivial,trivial,trivial⟩]
 cases es with
 | nil=>exact (hne rfl).elim
 | cons e es=>
  dsimp only;rw [if_pos ⟨Nc hf,hb⟩]
theorem Kj {X:Cx G} {E:Env} (hX:X.Ok E) {CM:List (dz G)} (hM:∀ c∈CM,c.Ok E X.hp X.g) {n f:Nat} {rf:RF} (hf:E.fns f=some rf) {args:List Sh} {ts:List Ty} {t:Ty} {a:An} {x:DL G ts} {r:List (t.D G)} (h:HW X CM n rf args ts t a x=some r) (hne:r≠[]):
 ∃ n,jw E.fns (aq E X.hp n) f (.ax 0 0 0 0::TV.aR X.g (fun _=>0) (ot X.g args (aL X.g ts x)))=some (.bk [.ax 0 0 (t.n X.g) 0,.ro (r.map (enc X.g t))]):=by
 unfold HW at h;dsimp only at h;split at h
 case isFalse=>cases h
 rename_i hc;rw [Bool.and_eq_true] at hc;have e1:=Nat.eq_of_beq_eq_true hc.1;have e2:=Nat.le_of_ble_eq_true hc.2;have hw:=tB hX hM n _ _ _ _ _ _ h;have hst:(⟨rf.ntmps,eX (ot X.g args (aL X.g ts x)) 0,[],[]⟩:DS G).st X.g=⟨eL rf (TV.aR X.g (fun _=>0) (ot X.g args (aL X.g ts x))),[]⟩:=by
  show (⟨⟨_,dx X.g _ _⟩,[]⟩:ST)=_;rw [kr];rfl
 rw [hst] at hw;obtain ⟨n,e,σ,h1,s',p1,p2,p3⟩:=hw;have fin:(match oq X.g s' rf.results with
  | some [.own id]=>(match s'.H[id]? with
   | some (.bg fl u l)=>if h:u=t then (if fl.free then some (h▸l) else none) else none
   | some (.cN fl sz es)=>if fl.free&&Nat.beq sz (t.n X.g) then nV X.g t es else none
   | _=>none)
  | _=>none)=some r->∃ v,bQ rf.results σ=some [v]/\pH σ.H v=some (.bk [.ax 0 0 (t.n X.g) 0,.ro (r.map (enc X.g t))]):=by
  intro h2;split at h2
  case h_2=>cases h2
  rename_i id hl;have hres:bQ rf.results σ=some [.own id (s'.ln id) 0 (s'.ln id)]:=by rw [<-p1];exact kY hX.g hl
  refine ⟨_,hres,?_⟩;have hH:σ.H=s'.Hv X.g:=by rw [<-p1];rfl
  rw [hH];have Ut:r.map (enc X.g t)≠[]:=by intro h;exact hne (List.map_eq_nil_iff.1 h)
  split at h2
  ·rename_i fl u l hid;split at h2
   case isFalse=>cases h2
   rename_i e;subst e;split at h2
   case isFalse=>cases h2
   rename_i hfr;injection h2 with h2
   subst h2;rw [kn hid];have:=xP (bp (g:=X.g) hid) hfr (fM (cR hX.g u).bA l) Ut;rw [List.length_map] at this;exact this
  ·rename_i fl sz es hid;split at h2
   case isFalse=>cases h2
   rename_i hfr;rw [Bool.and_eq_true] at hfr;have hsz:=Nat.eq_of_beq_eq_true hfr.2;subst hsz;obtain ⟨q1,q2⟩:=gY hX.g s'.ln h2;have e:s'.ln id=es.length:=by unfold DS.ln jD;rw [hid];rfl
   have hg:=bp (g:=X.g) hid;simp only [TO.av,q1] at hg;have:=xP hg hfr.1 (fM (cR hX.g t).bA r) Ut;rw [List.length_map] at this;rw [e,q2];exact this
  ·cases h2
 have done:(e= .normal\/e= .ret)->(∃ v,bQ rf.results σ=some [v]/\pH σ.H v=some (.bk [.ax 0 0 (t.n X.g) 0,.ro (r.map (enc X.g t))]))->∃ n,jw E.fns (aq E X.hp n) f (.ax 0 0 0 0::TV.aR X.g (fun _=>0) (ot X.g args (aL X.g ts x)))=some (.bk [.ax 0 0 (t.n X.g) 0,.ro (r.map (enc X.g t))]):=by
  rintro he ⟨v,h2,h3⟩;refine ⟨n,?_⟩;have hl:(TV.aR X.g (fun _=>0) (ot X.g args (aL X.g ts x))).length=rf.nargs:=by rw [dh];exact e1
  unfold jw;rw [hf];dsimp only;rw [if_neg (by rw [List.length_cons,hl];omega)];have hcm:∀ as:List AV,CY (aq E X.hp n) rf (.ax 0 0 0 0::as)=if as.length=rf.nargs/\rf.nargs<=rf.ntmps then
   (match aq E X.hp n rf.body 0 ⟨eL rf as,[]⟩ with
    | some (.exit _,_)=>none
    | some (_,s')=>(match bQ rf.results s' with
     | some [v]=>pH s'.H v
     | _=>none)
    | none=>none)
   else none:=fun _=>rfl
  rw [hcm,if_pos ⟨hl,e2⟩,h1];rcases he with rfl | rfl<;>(dsimp only;rw [h2];exact h3)
 cases e with
 | exit i=>cases p3
 | normal=>exact done (.inl rfl) (fin p3)
 | ret=>exact done (.inr rfl) (fin p3)
end
end nT
end
section
namespace nT
open Go hiding Obj mark
open Go.Pl Go.Am Go.Am.As
set_option linter.unusedVariables false
structure Sp (G:Nat->Type) where
 n:Nat->Nat
 ft:Nat->List Ty
 to:(i:Nat)->G i->DL G (ft i)
 of:(i:Nat)->DL G (ft i)->G i
 enc:(i:Nat)->G i->List AV
section
variable {G:Nat->Type}
def Xa (n:Nat->Nat):Ty->Nat
 | .st i=>n i
 | .arr k t=>k*Xa n t
 | _=>1
def oE (n:Nat->Nat):List Ty->List (TV G)->Option (List (TV G))
 | [],l=>(match l with | []=>some [] | _::_=>none)
 | t::ts,l=>(match t with
  | .st i=>if Nat.ble (n i) l.length then (match oE n ts (l.drop (n i)) with | some r=>some (.agg (l.take (n i))::r) | none=>none) else none
  | .arr k u=>if Nat.ble (k*Xa n u) l.length then (match oE n ts (l.drop (k*Xa n u)) with | some r=>some (.agg (l.take (k*Xa n u))::r) | none=>none) else none
  | _=>(match l with
   | v::l=>if Hl v then (match oE n ts l with | some r=>some (v::r) | none=>none) else none
   | []=>none))
def Sp.mk' (p:Sp G):Nat->(i:Nat)->List (TV G)->Option (G i)
 | 0,_,_=>none
 | d+1,i,l=>
  let g:Ge G:=⟨p.n,p.enc,fun i x=>[],fun i l=>p.mk' d i l⟩;match oE p.n (p.ft i) l with
  | some q=>(match lX g (p.ft i) q with | some w=>some (p.of i w) | none=>none)
  | none=>none
def tE (g:Ge G):(ts:List Ty)->DL G ts->List (TV G)
 | [],_=>[]
 | [t],x=>(view g t x).cells g
 | t::u::r,x=>(view g t x.1).cells g++tE g (u::r) x.2
def pI (g:Ge G):(ts:List Ty)->DL G ts->List AV
 | [],_=>[]
 | [t],x=>enc g t x
 | t::u::r,x=>enc g t x.1++pI g (u::r) x.2
def Sp.view' (p:Sp G):Nat->(i:Nat)->G i->List (TV G)
 | 0,i,x=>(p.enc i x).map .raw
 | d+1,i,x=>
  let g:Ge G:=⟨p.n,p.enc,fun i x=>p.view' d i x,fun _ _=>none⟩
  tE g (p.ft i) (p.to i x)
def Sp.ge (p:Sp G):Ge G:=⟨p.n,p.enc,fun i x=>p.view' 6 i x,fun i l=>p.mk' 6 i l⟩
structure Sp.Ok (p:Sp G):Prop where
 enc:∀ i,lJ (p.enc i) (p.n i)
 e:∀ i x,p.enc i x=pI p.ge (p.ft i) (p.to i x)
 to:∀ i w,p.to i (p.of i w)=w
theorem dN {g h:Ge G} (e:g.enc=h.enc):∀ t:Ty,enc g t=enc h t
 | .int _ | .bool | .str=>rfl
 | .list t=>by funext l;show [AV.ro _]=[AV.ro _];rw [dN e t]
 | .jH t=>by funext l;show [Ap _ _]=[Ap _ _];rw [dN e t]
 | .st i=>by funext x;show g.enc i x=h.enc i x;rw [e]
 | .ptr t=>by funext x;show [AV.bV _]=[AV.bV _];rw [dN e t]
 | .dB t=>by funext x;show [CZ _ _]=[CZ _ _];rw [dN e t]
 | .arr n t=>by funext a;show (List.map _ _).flatten=(List.map _ _).flatten;rw [dN e t]
theorem mS {g h:Ge G} (e:g.enc=h.enc):∀ (ts:List Ty) (x:DL G ts),pI g ts x=pI h ts x
 | [],_=>rfl
 | [t],x=>congrFun (dN e t) x
 | t::u::r,x=>by
  show enc g t x.1++pI g (u::r) x.2=enc h t x.1++pI h (u::r) x.2;rw [dN e t,mS e (u::r) x.2]
mutual
theorem Bb {g h:Ge G} (e:g.enc=h.enc) (ln:Nat->Nat):∀ v:TV G,v.av g ln=v.av h ln
 | .int _ _ | .bool _ | .str _ | .po .. | .own _ | .pe .. | .pa .. | .sa .. | .raw _=>rfl
 | .bg t l=>by rw [TV.av,TV.av,dN e t]
 | .fS t l=>by rw [TV.av,TV.av,dN e t]
 | .dB t l=>by rw [TV.av,TV.av,dN e t]
 | .arr n t a=>by show AV.agg _=AV.agg _;rw [dN e t]
 | .oY es=>by rw [TV.av,TV.av,vI e ln es]
 | .agg l=>by rw [TV.av,TV.av,ew e ln l]
 | .bk l=>by rw [TV.av,TV.av,ew e ln l]
 | .bV l=>by rw [TV.av,TV.av,ew e ln l]
 | .fn f l=>by rw [TV.av,TV.av,ew e ln l]
theorem ew {g h:Ge G} (e:g.enc=h.enc) (ln:Nat->Nat):∀ l:List (TV G),TV.aR g ln l=TV.aR h ln l
 | []=>rfl
 | x::l=>by rw [TV.aR,TV.aR,Bb e ln x,ew e ln l]
theorem vI {g h:Ge G} (e:g.enc=h.enc) (ln:Nat->Nat):∀ l:List (List (TV G)),TV.cU g ln l=TV.cU h ln l
 | []=>rfl
 | x::l=>by rw [TV.cU,TV.cU,ew e ln x,vI e ln l]
end
theorem Dw {g:Ge G} {ln:Nat->Nat} {v:TV G} (h:Hl v=true):(v.av g ln).cells=[v.av g ln]:=by
 cases v with
 | agg l=>cases h
 | bk l=>cases h
 | arr n t a=>cases h
 | raw a=>cases a<;>first | rfl | cases h
 | fS t o=>cases o<;>rfl
 | dB t o=>cases o<;>rfl
 | sa i lo len=>simp only [TV.av];split<;>rfl
 | _=>rfl
theorem rK {g:Ge G} {ln:Nat->Nat} {n:Nat->Nat}:∀ {ts:List Ty} {l q:List (TV G)},oE n ts l=some q->TV.aR g ln l=q.flatMap fun v=>(v.av g ln).cells
 | [],l,q,h=>by
  cases l with
  | nil=>injection h with h;subst h;rfl
  | cons x l=>cases h
 | t::ts,l,q,h=>by
  have ag:∀ {k:Nat},(if Nat.ble k l.length then (match oE n ts (l.drop k) with | some r=>some (.agg (l.take k)::r) | none=>none) else none)=some q->TV.aR g ln l=q.flatMap fun v=>(v.av g ln).cells:=by
   intro k h;split at h
   case isFalse=>cases h
   split at h
   case h_2=>cases h
   rename_i r hr;injection h with h;subst h
   have ih:=rK (g:=g) (ln:=ln) hr;rw [List.flatMap_cons,<-ih];show _=TV.aR g ln (l.take k)++_;rw [<-jN,List.take_append_drop]
  have on:(match l with
   | v::l=>if Hl v then (match oE n ts l with | some r=>some (v::r) | none=>none) else none
   | []=>none)=some q->TV.aR g ln l=q.flatMap fun v=>(v.av g ln).cells:=by
   intro h;split at h
   case h_2=>cases h
   rename_i v l;split at h
   case isFalse=>cases h
   rename_i ho;split at h
   case h_2=>cases h
   rename_i r hr;injection h with h;subst h
   rw [List.flatMap_cons,TV.aR,rK (g:=g) (ln:=ln) hr,Dw ho];rfl
  cases t with
  | st i=>exact ag h
  | arr k u=>exact ag h
  | _=>exact on h
theorem vJ (g:Ge G):∀ (ts:List Ty) (x:DL G ts),(tR g ts x).flatMap AV.cells=pI g ts x
 | [],_=>rfl
 | [t],x=>by
  show (va g t x).cells++[]=enc g t x;rw [List.append_nil];exact gm g t x
 | t::u::r,x=>by
  show (va g t x.1).cells++(tR g (u::r) x.2).flatMap AV.cells=_;rw [vJ g (u::r),gm];rfl
theorem IQ {p:Sp G} (hp:p.Ok):∀ (d i:Nat) (l:List (TV G)) (x:G i) (ln:Nat->Nat),p.mk' d i l=some x->TV.aR p.ge ln l=p.enc i x
 | 0,i,l,x,ln,h=>by cases h
 | d+1,i,l,x,ln,h=>by
  rw [Sp.mk'] at h;split at h
  case h_2=>cases h
  rename_i q hq;split at h
  case h_2=>cases h
  rename_i w hw;injection h with h;subst h
  have key:∀ (g:Ge G),g.enc=p.enc->g.Ok->lX g (p.ft i) q=some w->TV.aR p.ge ln l=p.enc i (p.of i w):=by
   intro g he hg hw;have h1:=jM hg ln _ _ _ hw;rw [rK (g:=p.ge) (ln:=ln) hq,hp.e,hp.to,<-mS (g:=g) (h:=p.ge) he,<-vJ,<-h1,bX,List.flatMap_map];congr 1;funext v
   rw [Bb (g:=g) (h:=p.ge) he]
  have hg0:∀ (vw:(i:Nat)->G i->List (TV G)),(∀ i x ln,TV.aR p.ge ln (vw i x)=p.enc i x)->Ge.Ok (⟨p.n,p.enc,vw,fun i l=>p.mk' d i l⟩:Ge G):=by
   intro vw hv;exact ⟨hp.enc,fun i x ln=>(ew (g:=⟨p.n,p.enc,vw,fun i l=>p.mk' d i l⟩) (h:=p.ge) rfl ln _).trans (hv i x ln),fun i l x ln h=>(ew (g:=⟨p.n,p.enc,vw,fun i l=>p.mk' d i l⟩) (h:=p.ge) rfl ln _).trans (IQ hp d i l x ln h)⟩
  have aej:∀ (i:Nat) (x:G i) (ln:Nat->Nat),TV.aR p.ge ln ((p.enc i x).map .raw)=p.enc i x:=fun i x ln=>tF p.ge ln _
  have hw':lX (⟨p.n,p.enc,fun i x=>(p.enc i x).map .raw,fun i l=>p.mk' d i l⟩:Ge G) (p.ft i) q=some w:=by
   have cg:∀ (t:Ty) (v:TV G),wA (⟨p.n,p.enc,fun i x=>(p.enc i x).map .raw,fun i l=>p.mk' d i l⟩:Ge G) t v=wA (⟨p.n,p.enc,fun i x=>[],fun i l=>p.mk' d i l⟩:Ge G) t v:=by
    intro t;induction t with
    | list t ih=>
     intro v;show TG t _ v=TG t _ v;congr 1;funext cs
     exact ih _
    | arr n t ih=>
     intro v;show S8 n t _ v=S8 n t _ v;congr 1;funext cs
     exact ih _
    | ptr t ih=>
     intro v;show Xb _ v=Xb _ v;congr 1;funext cs
     exact ih _
    | dB t ih=>
     intro v;show S9 t _ v=S9 t _ v;congr 1;funext cs
     exact ih _
    | _=>intro v;rfl
   have cm:∀ (ts:List Ty) (l:List (TV G)),lX (⟨p.n,p.enc,fun i x=>(p.enc i x).map .raw,fun i l=>p.mk' d i l⟩:Ge G) ts l=lX (⟨p.n,p.enc,fun i x=>[],fun i l=>p.mk' d i l⟩:Ge G) ts l:=by
    intro ts;induction ts with
    | nil=>intro l;rfl
    | cons t ts ih=>
     intro l
     cases ts with
     | nil=>
      cases l with
      | nil=>rfl
      | cons v l=>cases l with
       | nil=>exact cg t v
       | cons _ _=>rfl
     | cons u r=>
      cases l with
      | nil=>rfl
      | cons v l=>
       show (match wA _ t v with | some x=>(match lX _ (u::r) l with | some y=>some (x,y) | none=>none) | none=>none)=(match wA _ t v with | some x=>(match lX _ (u::r) l with | some y=>some (x,y) | none=>none) | none=>none);rw [cg t v,ih l]
   rw [cm];exact hw
  exact key _ rfl (hg0 _ aej) hw'
theorem vK {g:Ge G} (hg:g.Ok) (ln:Nat->Nat):∀ (ts:List Ty) (x:DL G ts),TV.aR g ln (tE g ts x)=pI g ts x
 | [],_=>rfl
 | [t],x=>gj hg ln t x
 | t::u::r,x=>by
  show TV.aR g ln (_++_)=_;rw [jN,gj hg ln t x.1,vK hg ln (u::r) x.2];rfl
theorem Bc {p:Sp G} (hp:p.Ok):∀ (d i:Nat) (x:G i) (ln:Nat->Nat),TV.aR p.ge ln (p.view' d i x)=p.enc i x
 | 0,i,x,ln=>tF p.ge ln _
 | d+1,i,x,ln=>by
  have hg:Ge.Ok (⟨p.n,p.enc,fun i x=>p.view' d i x,fun _ _=>none⟩:Ge G):=
   ⟨hp.enc,fun i x ln=>(ew (g:=⟨p.n,p.enc,fun i x=>p.view' d i x,fun _ _=>none⟩) (h:=p.ge) rfl ln _).trans (Bc hp d i x ln),fun i l x ln h=>nomatch h⟩
  have h1:=vK hg ln (p.ft i) (p.to i x);have h2:=ew (g:=⟨p.n,p.enc,fun i x=>p.view' d i x,fun _ _=>none⟩) (h:=p.ge) rfl ln (tE ⟨p.n,p.enc,fun i x=>p.view' d i x,fun _ _=>none⟩ (p.ft i) (p.to i x));have h3:=mS (g:=⟨p.n,p.enc,fun i x=>p.view' d i x,fun _ _=>none⟩) (h:=p.ge) rfl (p.ft i) (p.to i x);rw [hp.e,<-h3,<-h1,h2];rfl
theorem Sp.VN {p:Sp G} (hp:p.Ok):p.ge.Ok:=⟨hp.enc,fun i x ln=>Bc hp 6 i x ln,fun i l x ln h=>IQ hp 6 i l x ln h⟩
end
end nT
end
