/- Parts of my machine and its laws, joined: DnL DnM. No condition. -/
import Derived.Test.YtafgdbaekppjcaaGreatDoorDnK
set_option linter.unusedSectionVars false
set_option linter.unusedVariables false
set_option linter.unusedSimpArgs false
section
namespace oZ
open Go hiding Obj mark
open Go.Pl Go.Am Go.Am.As
section
variable {G:Nat->Type} {R:Type}
def Tu (X:Cx G) (rec:Rec G) (a:An) (s:DS G) (gx:RX) (c3:C3) (K:Kn G R):Option R:=match OQ (s.rx X.gl gx) with
 | some p=>(match X.fns p.1 with
  | some rf=>if (Nat.beq (p.2.length+1) rf.nargs&&Nat.ble rf.nargs rf.ntmps)&&(HY s.fr.length s.H&&s.fits s.H.length (.lp .ready s.fr.length)) then
   let ret:DS G->Option R:=fun s'=>match pK X.g s' rf.results with
    | some _=>(match s'.H[s.H.length]? with
     | some (.lp st fi)=>(match (s'.iT s.H.length .dead).leave s.fr.length with
      | some s2=>if Nat.beq fi s.fr.length then (match st with
       | .ready=>K.n s2
       | .done e=>K.at e s2
       | .busy=>none) else none
      | none=>none)
     | _=>none)
    | none=>none
   rec rf.body a (s.H.length+1) ⟨rf.ntmps,fK (.raw (.fI s.H.length)::p.2) 0,s.H++[.lp .ready s.fr.length],s.fr++[(s.sz,s.sl,c3)]⟩ ⟨ret,fun _ _=>none,ret⟩
   else none
  | none=>none)
 | none=>none
def Ep (X:Cx G) (CM:List (ey G)) (rec:Rec G):RC->{R:Type}->An->Nat->DS G->Kn G R->Option R
 | .bad,_,_,_,_,_=>none
 | .skip,_,_,_,s,K=>K.n s
 | .ret,_,_,_,s,K=>K.r s
 | .exit i,_,_,_,s,K=>K.x i s
 | .seq p q,_,a,b,s,K=>jn X.g (b6 p) (fun a s K=>Ep X CM rec p a b s K) (a.sub 0) s ⟨fun s'=>jn X.g (b6 q) (fun a s K=>Ep X CM rec q a b s K) (a.sub 1) s' K,K.x,K.r⟩
 | .cond x p q,_,a,b,s,K=>(match A1 (s.rx X.gl x) with
  | some c=>cond c (jn X.g (b6 p) (fun a s K=>Ep X CM rec p a b s K) (a.sub 0) s K) (jn X.g (b6 q) (fun a s K=>Ep X CM rec q a b s K) (a.sub 1) s K)
  | none=>none)
 | .block i p,_,a,b,s,K=>jn X.g (b6 p) (fun a s K=>Ep X CM rec p a b s K) a s ⟨K.n,fun j s'=>bif Nat.beq j i then K.n s' else K.x j s',K.r⟩
 | .loop p,_,a,b,s,K=>dlp X.g (b6 p) (fun a s K=>jn X.g (b6 p) (fun a s K=>Ep X CM rec p a b s K) a s K) a s K
 | .u6 ops,_,a,_,s,K=>qE X rec false ops 0 a s K.n
 | .draw ops,_,a,_,s,K=>qE X rec true ops 0 a s K.n
 | .jG ops bf,_,a,_,s,K=>dX X rec bf ops 0 a [] [] s K.n
 | .kr ops k ps,_,_,_,s,K=>NS X CM rec s.H.length ops ⟨s.sz,s.sl,s.H++List.replicate k .iA,s.fr⟩ fun s' fs=>if gy fs ps then K.n s' else none
 | .gh [] (.block i (.loop p)) post,_,a,b,s,K=>dlg X.g (b6 p) b i post (fun a s K=>jn X.g (b6 p) (fun a s K=>Ep X CM rec p a b s K) a s K) a s K
 | .gh pre p post,_,a,b,s,K=>(match Eo X.g b pre s with
  | some s0=>jn X.g (b6 p) (fun a s K=>Ep X CM rec p a b s K) a s0 ⟨fun s'=>V4 X.g b post s' K.n,K.x,K.r⟩
  | none=>none)
 | .Ay gx ps as body,_,a,_,s,K=>Tu X rec a s gx (ps,as,body) K
def JR (X:Cx G) (CM:List (ey G)):Nat->{R:Type}->RC->An->Nat->DS G->Kn G R->Option R
 | 0,_,_,_,_,_,_=>none
 | n+1,_,c,a,b,s,K=>jn X.g (b6 c) (fun a s K=>Ep X CM (fun c a b s K=>JR X CM n c a b s K) c a b s K) a s K
theorem UE {E:Env} {hp:Nat->Bool} {gx:RX} {ps:List Nat} {as body:RC} {b:Nat} {Q:Ex->ST->Prop} {s:ST} {f:Nat} {cap:List AV} {rf:RF} (hx:gq E.aJ s.tmps gx= .fn f cap) (hf:E.fns f=some rf) (hn:cap.length+1=rf.nargs) (hm:rf.nargs<=rf.ntmps)
 (h:WP E hp rf.body (s.H.length+1) (fun e s'=>match e with
  | .exit _=>False
  | _=>(∃ l,bP rf.results s'=some l)/\∃ ex,ld s'.H s.H.length=some ex/\Q ex ⟨s.tmps,s'.H.set s.H.length .dead⟩) ⟨⟨rf.ntmps,T.kf (.fI s.H.length::cap) 0⟩,s.H++[.lp .ready s.tmps.toL ps as body]⟩):WP E hp (.Ay gx ps as body) b Q s:=by
 obtain ⟨n,e,s',h1,h2⟩:=h;have key:((∃ l,bP rf.results s'=some l)/\∃ ex,ld s'.H s.H.length=some ex/\Q ex ⟨s.tmps,s'.H.set s.H.length .dead⟩)->(e= .normal\/e= .ret)->WP E hp (.Ay gx ps as body) b Q s:=by
  rintro ⟨⟨l,hl⟩,ex,q1,q2⟩ he;refine ⟨n+1,ex,_,?_,q2⟩;have hc:kh E.fns (ak E hp n) (some f) (.fI s.H.length::cap) (s.H++[.lp .ready s.tmps.toL ps as body])=some (oneOf l,s'.H):=by
   have hst:fm rf (.fI s.H.length::cap)=⟨rf.ntmps,T.kf (.fI s.H.length::cap) 0⟩:=rfl;have hlen:(s.H++[Obj.lp .ready s.tmps.toL ps as body]).length=s.H.length+1:=by simp
   simp only [kh,hf,zaR,hn,hm,and_self,if_true,hst,hlen,h1];rcases he with rfl | rfl<;>simp only [hl]
  rw [ak,hx];dsimp only;rw [hc];dsimp only;rw [q1]
 cases e with
 | exit i=>exact h2.elim
 | normal=>exact key h2 (.inl rfl)
 | ret=>exact key h2 (.inr rfl)
theorem PT {X:Cx G} {E:Env} (hX:X.Ok E) {rec:Rec G} (hr:nC E X.hp X.g rec) {a:An} {b:Nat} {s:DS G} {gx:RX} {ps:List Nat} {as body:RC} {K:Kn G R} {r:R} (h:Tu X rec a s gx (ps,as,body) K=some r):Sat E X.hp X.g (.Ay gx ps as body) b s K r:=by
 unfold Tu at h;split at h
 case h_2=>cases h
 rename_i p hp;split at h
 case h_2=>cases h
 rename_i rf hf;split at h
 case isFalse=>cases h
 rename_i hc;simp only [za0] at hc;have e1:=za3 hc.1.1;have e2:=zau hc.1.2;rw [hX.fns] at hf;have hx:gq E.aJ (s.tm X.g) gx= .fn p.1 (TV.aS X.g s.ln p.2):=by rw [DS.mQ,<-hX.gl,Bo hp];rfl
 have WT:(s.Hv X.g).length=s.H.length:=gH X.g s;refine UE (hx:=hx) hf (by rw [dH];exact e1) e2 ?_;have hw:=hr _ _ _ _ _ _ h;obtain ⟨k1,k2,k3⟩:=fV (g:=X.g) hc.2.2;have hno:(s.eE s.H.length (.lp .ready s.fr.length)).H=s.H++[.lp .ready s.fr.length]:=by
  unfold DS.eE;dsimp only;rw [if_neg (zc _)]
 have hFl:(s.FR X.g).length=s.fr.length:=Fa X.g s;have AA:(⟨rf.ntmps,fK (.raw (.fI s.H.length)::p.2) 0,s.H++[.lp .ready s.fr.length],s.fr++[(s.sz,s.sl,(ps,as,body))]⟩:DS G).ln=s.ln:=by
  show kg _=_;rw [<-hno];have hf0:=hc.2.2;unfold DS.fits at hf0;rw [za0] at hf0;exact xh (za6 _) rfl (by simpa using hf0.2)
 have yD:(⟨rf.ntmps,fK (.raw (.fI s.H.length)::p.2) 0,s.H++[.lp .ready s.fr.length],s.fr++[(s.sz,s.sl,(ps,as,body))]⟩:DS G).FR X.g=s.FR X.g++[(s.tm X.g,(ps,as,body))]:=by
  unfold DS.FR;rw [AA,zal];rfl
 have hst:(⟨rf.ntmps,fK (.raw (.fI s.H.length)::p.2) 0,s.H++[.lp .ready s.fr.length],s.fr++[(s.sz,s.sl,(ps,as,body))]⟩:DS G).st X.g=⟨⟨rf.ntmps,T.kf (.fI s.H.length::TV.aS X.g s.ln p.2) 0⟩,s.Hv X.g++[.lp .ready (s.tm X.g).toL ps as body]⟩:=by
  unfold DS.st DS.tm DS.Hv;rw [AA,yD,lE];congr 1;show (s.H++[TO.lp .ready s.fr.length]).map _=_;rw [zal];have h1:s.H.map (TO.av X.g s.ln (s.FR X.g++[(s.tm X.g,(ps,as,body))]))=s.H.map (TO.av X.g s.ln (s.FR X.g)):=by
   refine nI (n:=s.fr.length) (fun i hi=>?_) hc.2.1;rw [zap (by rw [hFl];exact hi)]
  rw [h1];have h2:(s.FR X.g++[(s.tm X.g,((ps,as,body):C3))])[s.fr.length]?=some (s.tm X.g,(ps,as,body)):=by
   rw [<-hFl,zav (za6 _),zby];rfl
  show _++[TO.av X.g s.ln _ (TO.lp .ready s.fr.length)]=_;simp only [TO.av,h2];rfl
 rw [hst] at hw;show WP E X.hp rf.body ((s.Hv X.g).length+1) _ ⟨⟨rf.ntmps,T.kf (.fI (s.Hv X.g).length::_) 0⟩,_⟩;rw [WT];have fin:∀ {s':DS G} {σ:ST},s'.st X.g=σ->s'.FR X.g=s.FR X.g++[(s.tm X.g,(ps,as,body))]->
  (match pK X.g s' rf.results with
   | some _=>(match s'.H[s.H.length]? with
    | some (.lp st fi)=>(match (s'.iT s.H.length .dead).leave s.fr.length with
     | some s2=>if Nat.beq fi s.fr.length then (match st with
      | .ready=>K.n s2
      | .done e=>K.at e s2
      | .busy=>none) else none
     | none=>none)
    | _=>none)
   | none=>none)=some r->(∃ l,bP rf.results σ=some l)/\∃ ex,ld σ.H s.H.length=some ex/\∃ s2:DS G,s2.st X.g=⟨s.tm X.g,σ.H.set s.H.length .dead⟩/\s2.FR X.g=s.FR X.g/\K.at ex s2=some r:=by
  intro s' σ h1 h2 h3;split at h3
  case h_2=>cases h3
  rename_i l hl;split at h3
  case h_2=>cases h3
  rename_i st fi hlp;split at h3
  case h_2=>cases h3
  rename_i s2 yG;split at h3
  case isFalse=>cases h3
  rename_i V6;have V6:=za3 V6;subst V6;obtain ⟨q1,q2,q3,q4⟩:=fG (g:=X.g) (o':= .dead) hlp rfl;obtain ⟨v1,v2,v3,v4⟩:=xj (g:=X.g) (s:=s) yG (by rw [q3,h2]);have hH:σ.H=s'.Hv X.g:=by rw [<-h1];rfl
  have XF:s2.st X.g=⟨s.tm X.g,σ.H.set s.H.length .dead⟩:=by
   show (⟨s2.tm X.g,s2.Hv X.g⟩:ST)=_;rw [v1,v4,q4,hH];rfl
  have hF:(s'.FR X.g)[s.fr.length]?=some (s.tm X.g,(ps,as,body)):=by
   rw [h2,<-hFl,zav (za6 _),zby];rfl
  have XH:σ.H[s.H.length]?=some (.lp st (s.tm X.g).toL ps as body):=by
   rw [hH,bw hlp];simp only [TO.av,hF]
  refine ⟨⟨_,by rw [<-h1];exact mA hX.g hl⟩,?_⟩
  cases st with
  | ready=>exact ⟨.normal,by unfold ld;rw [XH],s2,XF,v2,h3⟩
  | done e=>exact ⟨e,by unfold ld;rw [XH],s2,XF,v2,h3⟩
  | busy=>cases h3
 refine hw.mono ?_;rintro e σ ⟨s',p1,p2,p3⟩;rw [yD] at p2
 cases e with
 | exit i=>cases p3
 | normal=>
  obtain ⟨h1,ex,h2,s2,h3,h4,h5⟩:=fin p1 p2 p3;refine ⟨h1,ex,?_,s2,?_,h4,h5⟩
  ·show ld σ.H (s.Hv X.g).length=_;rw [WT];exact h2
  ·rw [h3];show (⟨_,_⟩:ST)=⟨s.tm X.g,σ.H.set (s.Hv X.g).length .dead⟩;rw [WT]
 | ret=>
  obtain ⟨h1,ex,h2,s2,h3,h4,h5⟩:=fin p1 p2 p3;refine ⟨h1,ex,?_,s2,?_,h4,h5⟩
  ·show ld σ.H (s.Hv X.g).length=_;rw [WT];exact h2
  ·rw [h3];show (⟨_,_⟩:ST)=⟨s.tm X.g,σ.H.set (s.Hv X.g).length .dead⟩;rw [WT]
theorem mw {X:Cx G} {E:Env} (hX:X.Ok E) {CM:List (ey G)} (hM:∀ c∈CM,c.Ok E X.hp X.g) {rec:Rec G} (hr:nC E X.hp X.g rec):∀ (c:RC) {R:Type} (a:An) (b:Nat) (s:DS G) (K:Kn G R) (r:R),Ep X CM rec c a b s K=some r->Sat E X.hp X.g c b s K r
 | .bad,R,a,b,s,K,r,h=>by cases h
 | .skip,R,a,b,s,K,r,h=>PU.2 ⟨s,rfl,rfl,h⟩
 | .ret,R,a,b,s,K,r,h=>UF.2 ⟨s,rfl,rfl,h⟩
 | .exit i,R,a,b,s,K,r,h=>PW.2 ⟨s,rfl,rfl,h⟩
 | .seq p q,R,a,b,s,K,r,h=>by
  have h1:=nD hX.g (c:=p) (b:=b) (fun a s K r h=>mw hX hM hr p a b s K r h) _ _ _ _ h;refine UG.2 (h1.mono ?_);rintro e σ ⟨s',p1,p2,p3⟩
  cases e with
  | normal=>
   have h2:=nD hX.g (c:=q) (b:=b) (fun a s K r h=>mw hX hM hr q a b s K r h) _ _ _ _ p3;subst p1;refine h2.mono ?_;rintro e σ ⟨s'',q1,q2,q3⟩;exact ⟨s'',q1,by rw [q2,p2],q3⟩
  | exit i=>exact ⟨s',p1,p2,p3⟩
  | ret=>exact ⟨s',p1,p2,p3⟩
 | .cond x p q,R,a,b,s,K,r,h=>by
  rw [Ep] at h;split at h
  case h_2=>cases h
  rename_i c hc;have hx:gq E.aJ (s.st X.g).tmps x= .bool c:=by
   show gq E.aJ (s.tm X.g) x=_;rw [DS.mQ,<-hX.gl,tB hc];rfl
  refine PX.2 ?_;rw [hx]
  cases c with
  | true=>exact nD hX.g (c:=p) (b:=b) (fun a s K r h=>mw hX hM hr p a b s K r h) _ _ _ _ h
  | false=>exact nD hX.g (c:=q) (b:=b) (fun a s K r h=>mw hX hM hr q a b s K r h) _ _ _ _ h
 | .block i p,R,a,b,s,K,r,h=>by
  have h1:=nD hX.g (c:=p) (b:=b) (fun a s K r h=>mw hX hM hr p a b s K r h) _ _ _ _ h;refine xk.2 (h1.mono ?_);rintro e σ ⟨s',p1,p2,p3⟩
  cases e with
  | normal=>exact ⟨s',p1,p2,p3⟩
  | ret=>exact ⟨s',p1,p2,p3⟩
  | exit j=>
   have p3:(bif Nat.beq j i then K.n s' else K.x j s')=some r:=p3;dsimp only;by_cases hj:j=i
   ·subst hj;rw [if_pos rfl];rw [show Nat.beq j j=true from Nat.beq_refl j] at p3;exact ⟨s',p1,p2,p3⟩
   ·rw [if_neg hj];have:Nat.beq j i=false:=by
     cases hb:Nat.beq j i with
     | false=>rfl
     | true=>exact (hj (za3 hb)).elim
    rw [this] at p3;exact ⟨s',p1,p2,p3⟩
 | .loop p,R,a,b,s,K,r,h=>UH hX.g (c:=p) (b:=b) (f:=fun a s K=>jn X.g (b6 p) (fun a s K=>Ep X CM rec p a b s K) a s K) (fun a s K r h=>nD hX.g (c:=p) (b:=b) (fun a s K r h=>mw hX hM hr p a b s K r h) _ _ _ _ h) h
 | .u6 ops,R,a,b,s,K,r,h=>UI.2 (vk hX hr ops h fun s' h1 h2=>⟨s',rfl,h1,h2⟩)
 | .draw ops,R,a,b,s,K,r,h=>PY.2 (vk hX hr ops h fun s' h1 h2=>⟨s',rfl,h1,h2⟩)
 | .jG ops bf,R,a,b,s,K,r,h=>ME (Cm hX hr ops .nil h fun s' h1 h2=>⟨s',rfl,h1,h2⟩)
 | .kr ops k ps,R,a,b,s,K,r,h=>by
  have AA:(⟨s.sz,s.sl,s.H++List.replicate k .iA,s.fr⟩:DS G).ln=s.ln:=by
   funext j
   show kg _ j=kg _ j;unfold kg;by_cases hj:j < s.H.length
   ·rw [zap hj]
   ·rw [zav (by omega),zan (by omega:s.H.length<=j)];rw [List.getElem?_replicate];split
    ·rename_i o ho;split at ho
     ·injection ho with ho;subst ho;rfl
     ·cases ho
    ·rfl
  have yD:(⟨s.sz,s.sl,s.H++List.replicate k .iA,s.fr⟩:DS G).FR X.g=s.FR X.g:=by unfold DS.FR;rw [AA]
  have htm:(⟨s.sz,s.sl,s.H++List.replicate k .iA,s.fr⟩:DS G).tm X.g=s.tm X.g:=by unfold DS.tm;rw [AA]
  have hHv:(⟨s.sz,s.sl,s.H++List.replicate k .iA,s.fr⟩:DS G).Hv X.g=s.Hv X.g++List.replicate k .iA:=by
   unfold DS.Hv;rw [yD,AA];show (s.H++List.replicate k TO.iA).map _=_;rw [zal,zbs];rfl
  have hw:=Fb hX hM (E:=E) (Q:=fun t H fs=>gy fs ps=true/\∃ s':DS G,s'.st X.g=⟨t,H⟩/\s'.FR X.g=s.FR X.g/\K.n s'=some r) ops h (fun s' fs h1 h2=>by
   split at h2
   case isFalse=>cases h2
   rename_i hp;exact ⟨hp,s',rfl,by rw [h1,yD],h2⟩)
  rw [htm,hHv] at hw;obtain ⟨n,t',H',fs,h1,h2,s',h3,h4,h5⟩:=hw;refine ⟨n+1,.normal,⟨t',H'⟩,?_,s',h3,h4,h5⟩;show (match gF E.aJ (j5 E.fns (ak E X.hp n)) (s.Hv X.g).length ops (s.tm X.g) (s.Hv X.g++List.replicate k .iA) with
   | some (t,H,fs)=>if gy fs ps=true then some (Ex.normal,(⟨t,H⟩:ST)) else none
   | none=>none)=_
  rw [gH,h1];simp only [h2,if_true]
 | .gh pre p post,R,a,b,s,K,r,h=>by
  by_cases he:∃ i q,pre=[]/\p= .block i (.loop q)
  ·obtain ⟨i,q,h1,h2⟩:=he;have hlt:sizeOf q < sizeOf p:=by rw [h2];simp;omega
   have ih:=fun {R:Type} (a:An) (s:DS G) (K:Kn G R) (r:R) (h:Ep X CM rec q a b s K=some r)=>mw hX hM hr q a b s K r h
   rw [h1,h2] at h ⊢;rw [Ep] at h;exact UJ hX.g hX.wk (c:=q) (b:=b) (f:=fun a s K=>jn X.g (b6 q) (fun a s K=>Ep X CM rec q a b s K) a s K) (fun a s K r h=>nD hX.g (c:=q) (b:=b) (fun a s K r h=>ih a s K r h) _ _ _ _ h) h
  rw [Ep] at h
  case x_7=>exact fun i q h1 h2=>he ⟨i,q,h1,h2⟩
  split at h
  case h_2=>cases h
  rename_i s0 h0;obtain ⟨g1,g2⟩:=AZ hX.g hX.wk h0;have h1:=nD hX.g (c:=p) (b:=b) (fun a s K r h=>mw hX hM hr p a b s K r h) _ _ _ _ h;refine Kq.2 ?_;rw [g1];refine h1.mono ?_;rintro e σ ⟨s',p1,p2,p3⟩
  cases e with
  | normal=>
   have p3:V4 X.g b post s' K.n=some r:=p3;obtain ⟨s2,g3,g4,p3⟩:=E9 hX.g hX.wk p3;subst p1;dsimp only;rw [g3];exact ⟨s2,rfl,by rw [g4,p2,g2],p3⟩
  | exit i=>exact ⟨s',p1,by rw [p2,g2],p3⟩
  | ret=>exact ⟨s',p1,by rw [p2,g2],p3⟩
 | .Ay gx ps as body,R,a,b,s,K,r,h=>PT hX hr h
theorem vl {X:Cx G} {E:Env} (hX:X.Ok E) {CM:List (ey G)} (hM:∀ c∈CM,c.Ok E X.hp X.g):∀ n,nC E X.hp X.g (fun c a b s K=>JR X CM n c a b s K)
 | 0=>fun c a b s K r h=>by cases h
 | n+1=>fun c a b s K r h=>nD hX.g (c:=c) (b:=b) (fun a s K r h=>mw hX hM (vl hX hM n) c a b s K r h) _ _ _ _ h
def vP:Nat->TV G->List (TV G)
 | 1,v=>[v]
 | _,v=>match v with
  | .bl l=>l
  | v=>[v]
def Tv (X:Cx G) (CM:List (ey G)) (n:Nat) (rf:RF) (args:List Sh) (ts rs:List Ty) (a:An) (x:DL G ts):Option (DL G rs):=
 let vs:=pL X.g args (aM X.g ts x);let fin:DS G->Option (DL G rs):=fun s'=>match pK X.g s' rf.results with
  | some l=>(match BV s'.H 6 (yT l) with
   | some w=>if Nat.beq (vP rs.length w).length rs.length then nq X.g rs (vP rs.length w) else none
   | none=>none)
  | none=>none
 if Nat.beq vs.length rf.nargs&&Nat.ble rf.nargs rf.ntmps then JR X CM n rf.body a 0 ⟨rf.ntmps,fK vs 0,[],[]⟩ ⟨fin,fun _ _=>none,fin⟩ else none
theorem PZ {g:Ge G} {ln:Nat->Nat} {n:Nat} {v:TV G} (h:(vP n v).length=n):oneOf (TV.aS g ln (vP n v))=v.av g ln:=by
 match n,v with
 | 1,v=>rfl
 | 0,.bl []=>rfl
 | 0,.bl (_::_)=>simp [vP] at h
 | n+2,.bl []=>simp [vP] at h
 | n+2,.bl [_]=>simp [vP] at h
 | n+2,.bl (a::b::l)=>rfl
 | 0,.int .. | 0,.bool _ | 0,.str _ | 0,.aL .. | 0,.gC .. | 0,.qx _ | 0,.agg _ | 0,.bZ _ | 0,.fn .. | 0,.po .. | 0,.own _ | 0,.pe .. | 0,.pa .. | 0,.sa .. | 0,.arr .. | 0,.eg .. | 0,.raw _=>simp [vP] at h
 | n+2,.int .. | n+2,.bool _ | n+2,.str _ | n+2,.aL .. | n+2,.gC .. | n+2,.qx _ | n+2,.agg _ | n+2,.bZ _ | n+2,.fn .. | n+2,.po .. | n+2,.own _ | n+2,.pe .. | n+2,.pa .. | n+2,.sa .. | n+2,.arr .. | n+2,.eg .. | n+2,.raw _=>simp [vP] at h
theorem P0 {X:Cx G} {E:Env} (hX:X.Ok E) {CM:List (ey G)} (hM:∀ c∈CM,c.Ok E X.hp X.g) {n f:Nat} {rf:RF} (hf:E.fns f=some rf) {args:List Sh} {ts rs:List Ty} {a:An} {x:DL G ts} {r:DL G rs} (h:Tv X CM n rf args ts rs a x=some r):
 Pt E X.hp f (TV.aS X.g (fun _=>0) (pL X.g args (aM X.g ts x))) (oneOf (vN X.g rs r)):=by
 unfold Tv at h;dsimp only at h;split at h
 case isFalse=>cases h
 rename_i hc;rw [za0] at hc;have e1:=za3 hc.1;have e2:=zau hc.2;refine Y3 hf (by rw [dH];exact e1) e2 ?_;have hw:=vl hX hM n _ _ _ _ _ _ h;have hst:(⟨rf.ntmps,fK (pL X.g args (aM X.g ts x)) 0,[],[]⟩:DS G).st X.g=⟨fm rf (TV.aS X.g (fun _=>0) (pL X.g args (aM X.g ts x))),[]⟩:=by
  show (⟨⟨_,dR X.g _ _⟩,[]⟩:ST)=_;rw [lE];rfl
 rw [hst] at hw;have fin:∀ {s':DS G} {σ:ST},s'.st X.g=σ->(match pK X.g s' rf.results with
  | some l=>(match BV s'.H 6 (yT l) with
   | some w=>if Nat.beq (vP rs.length w).length rs.length then nq X.g rs (vP rs.length w) else none
   | none=>none)
  | none=>none)=some r->∃ l,bP rf.results σ=some l/\pack σ.H (oneOf l)=some (oneOf (vN X.g rs r)):=by
  intro s' σ h1 h2;split at h2
  case h_2=>cases h2
  rename_i l hl;split at h2
  case h_2=>cases h2
  rename_i w hw;split at h2
  case isFalse=>cases h2
  rename_i hlen;have hlen:=za3 hlen;refine ⟨_,by rw [<-h1];exact mA hX.g hl,?_⟩;have h3:=mm hX.g 6 hw;rw [vm] at h3;rw [<-kB hX.g s'.ln _ _ _ h2,PZ hlen,<-h1];exact h3
 refine hw.mono ?_;rintro e σ ⟨s',p1,p2,p3⟩
 cases e with
 | exit i=>cases p3
 | normal=>exact fin p1 p3
 | ret=>exact fin p1 p3
def Kr (X:Cx G) (CM:List (ey G)) (n:Nat) (rf:RF) (i:Az) (ts:List Ty) (o1 o2:dJ) (a:An) (x:DL G ts):Option (DL G o1.ts⊕DL G o2.ts):=
 let s0:=i.st X.g rf.ntmps (aM X.g ts x);let fin:DS G->Option (DL G o1.ts⊕DL G o2.ts):=fun s'=>match pK X.g s' rf.results with
  | some l=>(match o1.coll X.g l s' with
   | some w=>some (.inl w)
   | none=>(match o2.coll X.g l s' with
    | some w=>some (.inr w)
    | none=>none))
  | none=>none
 if Nat.beq i.sl.length rf.nargs&&(Nat.ble rf.nargs rf.ntmps&&qU s0.fr) then JR X CM n rf.body a s0.H.length s0 ⟨fin,fun _ _=>none,fin⟩ else none
theorem MF {X:Cx G} {E:Env} (hX:X.Ok E) {CM:List (ey G)} (hM:∀ c∈CM,c.Ok E X.hp X.g) {n f:Nat} {rf:RF} (hf:E.fns f=some rf) {i:Az} {ts:List Ty} {o1 o2:dJ} {a:An} {x:DL G ts} {u:DL G o1.ts⊕DL G o2.ts} (h:Kr X CM n rf i ts o1 o2 a x=some u):dJ.Is2 E X.hp X.g f (i.st X.g 0 (aM X.g ts x)) o1 o2 u:=by
 unfold Kr at h;dsimp only at h;split at h
 case isFalse=>cases h
 rename_i hc;simp only [za0] at hc;have e1:=za3 hc.1;have e2:=zau hc.2.1;obtain ⟨m,e,σ,h1,s',p1,p2,p3⟩:=vl hX hM n _ _ _ _ _ _ h;have hst:(i.st X.g rf.ntmps (aM X.g ts x)).st X.g=⟨fm rf (TV.aS X.g (i.st X.g 0 (aM X.g ts x)).ln (vals (i.st X.g 0 (aM X.g ts x)).sl)),(i.st X.g 0 (aM X.g ts x)).Hv X.g⟩:=by
  show (⟨⟨rf.ntmps,dR X.g (i.st X.g 0 (aM X.g ts x)).ln (i.st X.g 0 (aM X.g ts x)).sl⟩,_⟩:ST)=⟨⟨rf.ntmps,T.kf _ 0⟩,_⟩;have hk:(i.st X.g 0 (aM X.g ts x)).sl=fK (vals (i.st X.g 0 (aM X.g ts x)).sl) 0:=zK i.sl 0 _;rw [<-lE,<-hk];rfl
 rw [hst] at h1;have hlen:(TV.aS X.g (i.st X.g 0 (aM X.g ts x)).ln (vals (i.st X.g 0 (aM X.g ts x)).sl)).length=rf.nargs:=by
  rw [dH,<-e1];exact CT i.sl 0 _
 have hb:((i.st X.g 0 (aM X.g ts x)).Hv X.g).length=(i.st X.g rf.ntmps (aM X.g ts x)).H.length:=by rw [gH];rfl
 have key:(match pK X.g s' rf.results with
  | some l=>(match o1.coll X.g l s' with
   | some w=>some (.inl w)
   | none=>(match o2.coll X.g l s' with
    | some w=>some (.inr w)
    | none=>none))
  | none=>none)=some u->(e= .normal\/e= .ret)->dJ.Is2 E X.hp X.g f (i.st X.g 0 (aM X.g ts x)) o1 o2 u:=by
  intro h3 he;split at h3
  case h_2=>cases h3
  rename_i l hl;have hr:=mA hX.g hl;rw [p1] at hr;have N6:kh E.fns (ak E X.hp m) (some f) (TV.aS X.g (i.st X.g 0 (aM X.g ts x)).ln (vals (i.st X.g 0 (aM X.g ts x)).sl)) ((i.st X.g 0 (aM X.g ts x)).Hv X.g)=some (oneOf (TV.aS X.g s'.ln l),s'.Hv X.g):=by
   simp only [kh,hf,hlen,e2,and_self,if_true];rw [hb,h1];rcases he with rfl | rfl<;>simp only [hr]<;>rw [<-p1]<;>rfl
  have fin:∀ {o:dJ} {w:DL G o.ts},o.coll X.g l s'=some w->dJ.Is E X.hp X.g f (i.st X.g 0 (aM X.g ts x)) o (aM X.g o.ts w):=by
   intro o w hw;obtain ⟨q1,q2,q3⟩:=dJ.qV hX.g hw;have yD:(⟨0,[],o.mem X.g (aM X.g o.ts w),(i.st X.g 0 (aM X.g ts x)).fr⟩:DS G).FR X.g=(i.st X.g 0 (aM X.g ts x)).FR X.g:=qe (g:=X.g) hc.2.2;refine ⟨m,?_,yD⟩;rw [N6,q1,q2];refine congrArg (fun H=>some (oneOf (TV.aS X.g s'.ln l),H)) ?_;show _=(o.mem X.g (aM X.g o.ts w)).map (TO.av X.g (kg (o.mem X.g (aM X.g o.ts w))) (DS.FR X.g ⟨0,[],o.mem X.g (aM X.g o.ts w),(i.st X.g 0 (aM X.g ts x)).fr⟩));rw [yD,q1,q3,<-show s'.FR X.g=(i.st X.g 0 (aM X.g ts x)).FR X.g from p2];rfl
  split at h3
  ·rename_i w hw;injection h3 with h3;subst h3
   exact fin hw
  ·split at h3
   case h_2=>cases h3
   rename_i w hw;injection h3 with h3;subst h3
   exact fin hw
 cases e with
 | exit j=>cases p3
 | normal=>exact key p3 (.inl rfl)
 | ret=>exact key p3 (.inr rfl)
def Ks (X:Cx G) (CM:List (ey G)) (n:Nat) (rf:RF) (args:List Sh) (ts:List Ty) (t:Ty) (a:An) (x:DL G ts):Option (List (t.D G)):=
 let vs:=pL X.g args (aM X.g ts x);let fin:DS G->Option (List (t.D G)):=fun s'=>match pK X.g s' rf.results with
  | some [.own id]=>(match s'.H[id]? with
   | some (.aL fl u l)=>if h:u=t then (if fl.free then some (h▸l) else none) else none
   | some (.cX fl sz es)=>if fl.free&&Nat.beq sz (t.n X.g) then o6 X.g t es else none
   | _=>none)
  | _=>none
 if Nat.beq vs.length rf.nargs&&Nat.ble rf.nargs rf.ntmps then JR X CM n rf.body a 0 ⟨rf.ntmps,fK vs 0,[],[]⟩ ⟨fin,fun _ _=>none,fin⟩ else none
theorem P1 {fl:Fl} (h:fl.free=true):fl= .norm\/fl= .nil:=by cases fl<;>first | exact .inl rfl | exact .inr rfl | cases h
theorem zU {H:List Obj} {id sz:Nat} {fl:Fl} {es:List (List AV)} (hH:H[id]?=some (.live fl sz es)) (hf:fl.free=true) (hb:AV.bN 0 es=true) (hne:es≠[]):qO H (.own id es.length 0 es.length)=some (.bl [.aA 0 0 sz 0,.ro es]):=by
 unfold qO;simp only [hH];rw [if_pos ⟨trivial,trivial,trivial⟩]
 cases es with
 | nil=>exact (hne rfl).elim
 | cons e es=>
  dsimp only;rw [if_pos ⟨P1 hf,hb⟩]
theorem MG {X:Cx G} {E:Env} (hX:X.Ok E) {CM:List (ey G)} (hM:∀ c∈CM,c.Ok E X.hp X.g) {n f:Nat} {rf:RF} (hf:E.fns f=some rf) {args:List Sh} {ts:List Ty} {t:Ty} {a:An} {x:DL G ts} {r:List (t.D G)} (h:Ks X CM n rf args ts t a x=some r) (hne:r≠[]):
 ∃ n,j5 E.fns (ak E X.hp n) f (.aA 0 0 0 0::TV.aS X.g (fun _=>0) (pL X.g args (aM X.g ts x)))=some (.bl [.aA 0 0 (t.n X.g) 0,.ro (r.map (enc X.g t))]):=by
 unfold Ks at h;dsimp only at h;split at h
 case isFalse=>cases h
 rename_i hc;rw [za0] at hc;have e1:=za3 hc.1;have e2:=zau hc.2;have hw:=vl hX hM n _ _ _ _ _ _ h;have hst:(⟨rf.ntmps,fK (pL X.g args (aM X.g ts x)) 0,[],[]⟩:DS G).st X.g=⟨fm rf (TV.aS X.g (fun _=>0) (pL X.g args (aM X.g ts x))),[]⟩:=by
  show (⟨⟨_,dR X.g _ _⟩,[]⟩:ST)=_;rw [lE];rfl
 rw [hst] at hw;obtain ⟨n,e,σ,h1,s',p1,p2,p3⟩:=hw;have fin:(match pK X.g s' rf.results with
  | some [.own id]=>(match s'.H[id]? with
   | some (.aL fl u l)=>if h:u=t then (if fl.free then some (h▸l) else none) else none
   | some (.cX fl sz es)=>if fl.free&&Nat.beq sz (t.n X.g) then o6 X.g t es else none
   | _=>none)
  | _=>none)=some r->∃ v,bP rf.results σ=some [v]/\qO σ.H v=some (.bl [.aA 0 0 (t.n X.g) 0,.ro (r.map (enc X.g t))]):=by
  intro h2;split at h2
  case h_2=>cases h2
  rename_i id hl;have hres:bP rf.results σ=some [.own id (s'.ln id) 0 (s'.ln id)]:=by rw [<-p1];exact mA hX.g hl
  refine ⟨_,hres,?_⟩;have hH:σ.H=s'.Hv X.g:=by rw [<-p1];rfl
  rw [hH];have XI:r.map (enc X.g t)≠[]:=by intro h;exact hne (List.map_eq_nil_iff.1 h)
  split at h2
  ·rename_i fl u l hid;split at h2
   case isFalse=>cases h2
   rename_i e;subst e;split at h2
   case isFalse=>cases h2
   rename_i hfr;injection h2 with h2
   subst h2;rw [lB hid];have:=zU (bw (g:=X.g) hid) hfr (gw (c6 hX.g u).bp l) XI;rw [zah] at this;exact this
  ·rename_i fl sz es hid;split at h2
   case isFalse=>cases h2
   rename_i hfr;rw [za0] at hfr;have hsz:=za3 hfr.2;subst hsz;obtain ⟨q1,q2⟩:=iN hX.g s'.ln h2;have e:s'.ln id=es.length:=by unfold DS.ln kg;rw [hid];rfl
   have hg:=bw (g:=X.g) hid;simp only [TO.av,q1] at hg;have:=zU hg hfr.1 (gw (c6 hX.g t).bp r) XI;rw [zah] at this;rw [e,q2];exact this
  ·cases h2
 have done:(e= .normal\/e= .ret)->(∃ v,bP rf.results σ=some [v]/\qO σ.H v=some (.bl [.aA 0 0 (t.n X.g) 0,.ro (r.map (enc X.g t))]))->∃ n,j5 E.fns (ak E X.hp n) f (.aA 0 0 0 0::TV.aS X.g (fun _=>0) (pL X.g args (aM X.g ts x)))=some (.bl [.aA 0 0 (t.n X.g) 0,.ro (r.map (enc X.g t))]):=by
  rintro he ⟨v,h2,h3⟩;refine ⟨n,?_⟩;have hl:(TV.aS X.g (fun _=>0) (pL X.g args (aM X.g ts x))).length=rf.nargs:=by rw [dH];exact e1
  unfold j5;rw [hf];dsimp only;rw [if_neg (by rw [zaR,hl];omega)];have hcm:∀ as:List AV,EO (ak E X.hp n) rf (.aA 0 0 0 0::as)=if as.length=rf.nargs/\rf.nargs<=rf.ntmps then
   (match ak E X.hp n rf.body 0 ⟨fm rf as,[]⟩ with
    | some (.exit _,_)=>none
    | some (_,s')=>(match bP rf.results s' with
     | some [v]=>qO s'.H v
     | _=>none)
    | none=>none)
   else none:=fun _=>rfl
  rw [hcm,if_pos ⟨hl,e2⟩,h1];rcases he with rfl | rfl<;>(dsimp only;rw [h2];exact h3)
 cases e with
 | exit i=>cases p3
 | normal=>exact done (.inl rfl) (fin p3)
 | ret=>exact done (.inr rfl) (fin p3)
end
end oZ
end
section
namespace oZ
open Go hiding Obj mark
open Go.Pl Go.Am Go.Am.As
structure Sp (G:Nat->Type) where
 n:Nat->Nat
 ft:Nat->List Ty
 to:(i:Nat)->G i->DL G (ft i)
 of:(i:Nat)->DL G (ft i)->G i
 enc:(i:Nat)->G i->List AV
section
variable {G:Nat->Type}
def nTy (n:Nat->Nat):Ty->Nat
 | .st i=>n i
 | .arr k t=>k*nTy n t
 | _=>1
def pZ (n:Nat->Nat):List Ty->List (TV G)->Option (List (TV G))
 | [],l=>(match l with | []=>some [] | _::_=>none)
 | t::ts,l=>(match t with
  | .st i=>if Nat.ble (n i) l.length then (match pZ n ts (l.drop (n i)) with | some r=>some (.agg (l.take (n i))::r) | none=>none) else none
  | .arr k u=>if Nat.ble (k*nTy n u) l.length then (match pZ n ts (l.drop (k*nTy n u)) with | some r=>some (.agg (l.take (k*nTy n u))::r) | none=>none) else none
  | _=>(match l with
   | v::l=>if JT v then (match pZ n ts l with | some r=>some (v::r) | none=>none) else none
   | []=>none))
def Sp.mk' (p:Sp G):Nat->(i:Nat)->List (TV G)->Option (G i)
 | 0,_,_=>none
 | d+1,i,l=>
  let g:Ge G:=⟨p.n,p.enc,fun i x=>[],fun i l=>p.mk' d i l⟩;match pZ p.n (p.ft i) l with
  | some q=>(match nq g (p.ft i) q with | some w=>some (p.of i w) | none=>none)
  | none=>none
def vp (g:Ge G):(ts:List Ty)->DL G ts->List (TV G)
 | [],_=>[]
 | [t],x=>(view g t x).cells g
 | t::u::r,x=>(view g t x.1).cells g++vp g (u::r) x.2
def qP (g:Ge G):(ts:List Ty)->DL G ts->List AV
 | [],_=>[]
 | [t],x=>enc g t x
 | t::u::r,x=>enc g t x.1++qP g (u::r) x.2
def Sp.view' (p:Sp G):Nat->(i:Nat)->G i->List (TV G)
 | 0,i,x=>(p.enc i x).map .raw
 | d+1,i,x=>
  let g:Ge G:=⟨p.n,p.enc,fun i x=>p.view' d i x,fun _ _=>none⟩
  vp g (p.ft i) (p.to i x)
def Sp.ge (p:Sp G):Ge G:=⟨p.n,p.enc,fun i x=>p.view' 6 i x,fun i l=>p.mk' 6 i l⟩
structure Sp.Ok (p:Sp G):Prop where
 enc:∀ i,mR (p.enc i) (p.n i)
 e:∀ i x,p.enc i x=qP p.ge (p.ft i) (p.to i x)
 to:∀ i w,p.to i (p.of i w)=w
theorem ew {g h:Ge G} (e:g.enc=h.enc):∀ t:Ty,enc g t=enc h t
 | .int _ | .bool | .str=>rfl
 | .list t=>by funext l;show [AV.ro _]=[AV.ro _];rw [ew e t]
 | .kq t=>by funext l;show [Cc _ _]=[Cc _ _];rw [ew e t]
 | .st i=>by funext x;show g.enc i x=h.enc i x;rw [e]
 | .ptr t=>by funext x;show [AV.bZ _]=[AV.bZ _];rw [ew e t]
 | .eg t=>by funext x;show [EP _ _]=[EP _ _];rw [ew e t]
 | .arr n t=>by funext a;show (List.map _ _).flatten=(List.map _ _).flatten;rw [ew e t]
theorem nY {g h:Ge G} (e:g.enc=h.enc):∀ (ts:List Ty) (x:DL G ts),qP g ts x=qP h ts x
 | [],_=>rfl
 | [t],x=>congrFun (ew e t) x
 | t::u::r,x=>by
  show enc g t x.1++qP g (u::r) x.2=enc h t x.1++qP h (u::r) x.2;rw [ew e t,nY e (u::r) x.2]
mutual
theorem C5 {g h:Ge G} (e:g.enc=h.enc) (ln:Nat->Nat):∀ v:TV G,v.av g ln=v.av h ln
 | .int _ _ | .bool _ | .str _ | .po .. | .own _ | .pe .. | .pa .. | .sa .. | .raw _=>rfl
 | .aL t l=>by rw [TV.av,TV.av,ew e t]
 | .gC t l=>by rw [TV.av,TV.av,ew e t]
 | .eg t l=>by rw [TV.av,TV.av,ew e t]
 | .arr n t a=>by show AV.agg _=AV.agg _;rw [ew e t]
 | .qx es=>by rw [TV.av,TV.av,xZ e ln es]
 | .agg l=>by rw [TV.av,TV.av,eS e ln l]
 | .bl l=>by rw [TV.av,TV.av,eS e ln l]
 | .bZ l=>by rw [TV.av,TV.av,eS e ln l]
 | .fn f l=>by rw [TV.av,TV.av,eS e ln l]
theorem eS {g h:Ge G} (e:g.enc=h.enc) (ln:Nat->Nat):∀ l:List (TV G),TV.aS g ln l=TV.aS h ln l
 | []=>rfl
 | x::l=>by rw [TV.aS,TV.aS,C5 e ln x,eS e ln l]
theorem xZ {g h:Ge G} (e:g.enc=h.enc) (ln:Nat->Nat):∀ l:List (List (TV G)),TV.dc g ln l=TV.dc h ln l
 | []=>rfl
 | x::l=>by rw [TV.dc,TV.dc,eS e ln x,xZ e ln l]
end
theorem FB {g:Ge G} {ln:Nat->Nat} {v:TV G} (h:JT v=true):(v.av g ln).cells=[v.av g ln]:=by
 cases v with
 | agg l=>cases h
 | bl l=>cases h
 | arr n t a=>cases h
 | raw a=>cases a<;>first | rfl | cases h
 | gC t o=>cases o<;>rfl
 | eg t o=>cases o<;>rfl
 | sa i lo len=>simp only [TV.av];split<;>rfl
 | _=>rfl
theorem tE {g:Ge G} {ln:Nat->Nat} {n:Nat->Nat}:∀ {ts:List Ty} {l q:List (TV G)},pZ n ts l=some q->TV.aS g ln l=q.flatMap fun v=>(v.av g ln).cells
 | [],l,q,h=>by
  cases l with
  | nil=>injection h with h;subst h;rfl
  | cons x l=>cases h
 | t::ts,l,q,h=>by
  have ag:∀ {k:Nat},(if Nat.ble k l.length then (match pZ n ts (l.drop k) with | some r=>some (.agg (l.take k)::r) | none=>none) else none)=some q->TV.aS g ln l=q.flatMap fun v=>(v.av g ln).cells:=by
   intro k h;split at h
   case isFalse=>cases h
   split at h
   case h_2=>cases h
   rename_i r hr;injection h with h;subst h
   have ih:=tE (g:=g) (ln:=ln) hr;rw [zbR,<-ih];show _=TV.aS g ln (l.take k)++_;rw [<-kC,zbL]
  have on:(match l with
   | v::l=>if JT v then (match pZ n ts l with | some r=>some (v::r) | none=>none) else none
   | []=>none)=some q->TV.aS g ln l=q.flatMap fun v=>(v.av g ln).cells:=by
   intro h;split at h
   case h_2=>cases h
   rename_i v l;split at h
   case isFalse=>cases h
   rename_i ho;split at h
   case h_2=>cases h
   rename_i r hr;injection h with h;subst h
   rw [zbR,TV.aS,tE (g:=g) (ln:=ln) hr,FB ho];rfl
  cases t with
  | st i=>exact ag h
  | arr k u=>exact ag h
  | _=>exact on h
theorem x6 (g:Ge G):∀ (ts:List Ty) (x:DL G ts),(vN g ts x).flatMap AV.cells=qP g ts x
 | [],_=>rfl
 | [t],x=>by
  show (va g t x).cells++[]=enc g t x;rw [zbo];exact gQ g t x
 | t::u::r,x=>by
  show (va g t x.1).cells++(vN g (u::r) x.2).flatMap AV.cells=_;rw [x6 g (u::r),gQ];rfl
theorem Ln {p:Sp G} (hp:p.Ok):∀ (d i:Nat) (l:List (TV G)) (x:G i) (ln:Nat->Nat),p.mk' d i l=some x->TV.aS p.ge ln l=p.enc i x
 | 0,i,l,x,ln,h=>by cases h
 | d+1,i,l,x,ln,h=>by
  rw [Sp.mk'] at h;split at h
  case h_2=>cases h
  rename_i q hq;split at h
  case h_2=>cases h
  rename_i w hw;injection h with h;subst h
  have key:∀ (g:Ge G),g.enc=p.enc->g.Ok->nq g (p.ft i) q=some w->TV.aS p.ge ln l=p.enc i (p.of i w):=by
   intro g he hg hw;have h1:=kB hg ln _ _ _ hw;rw [tE (g:=p.ge) (ln:=ln) hq,hp.e,hp.to,<-nY (g:=g) (h:=p.ge) he,<-x6,<-h1,bU,List.flatMap_map];congr 1;funext v
   rw [C5 (g:=g) (h:=p.ge) he]
  have hg0:∀ (vw:(i:Nat)->G i->List (TV G)),(∀ i x ln,TV.aS p.ge ln (vw i x)=p.enc i x)->Ge.Ok (⟨p.n,p.enc,vw,fun i l=>p.mk' d i l⟩:Ge G):=by
   intro vw hv;exact ⟨hp.enc,fun i x ln=>(eS (g:=⟨p.n,p.enc,vw,fun i l=>p.mk' d i l⟩) (h:=p.ge) rfl ln _).trans (hv i x ln),fun i l x ln h=>(eS (g:=⟨p.n,p.enc,vw,fun i l=>p.mk' d i l⟩) (h:=p.ge) rfl ln _).trans (Ln hp d i l x ln h)⟩
  have ado:∀ (i:Nat) (x:G i) (ln:Nat->Nat),TV.aS p.ge ln ((p.enc i x).map .raw)=p.enc i x:=fun i x ln=>vq p.ge ln _
  have hw':nq (⟨p.n,p.enc,fun i x=>(p.enc i x).map .raw,fun i l=>p.mk' d i l⟩:Ge G) (p.ft i) q=some w:=by
   have cg:∀ (t:Ty) (v:TV G),yC (⟨p.n,p.enc,fun i x=>(p.enc i x).map .raw,fun i l=>p.mk' d i l⟩:Ge G) t v=yC (⟨p.n,p.enc,fun i x=>[],fun i l=>p.mk' d i l⟩:Ge G) t v:=by
    intro t;induction t with
    | list t ih=>
     intro v;show WY t _ v=WY t _ v;congr 1;funext cs
     exact ih _
    | arr n t ih=>
     intro v;show V8 n t _ v=V8 n t _ v;congr 1;funext cs
     exact ih _
    | ptr t ih=>
     intro v;show asP _ v=asP _ v;congr 1;funext cs
     exact ih _
    | eg t ih=>
     intro v;show V9 t _ v=V9 t _ v;congr 1;funext cs
     exact ih _
    | _=>intro v;rfl
   have cm:∀ (ts:List Ty) (l:List (TV G)),nq (⟨p.n,p.enc,fun i x=>(p.enc i x).map .raw,fun i l=>p.mk' d i l⟩:Ge G) ts l=nq (⟨p.n,p.enc,fun i x=>[],fun i l=>p.mk' d i l⟩:Ge G) ts l:=by
    intro ts;induction ts with
    | nil=>intro l;rfl
    | cons t ts ih=>
     intro l
     cases ts with
     | nil=>
      cases l with
      | nil=>rfl
      | cons v l=>cases l with
       | nil=>exact cg t v
       | cons _ _=>rfl
     | cons u r=>
      cases l with
      | nil=>rfl
      | cons v l=>
       show (match yC _ t v with | some x=>(match nq _ (u::r) l with | some y=>some (x,y) | none=>none) | none=>none)=(match yC _ t v with | some x=>(match nq _ (u::r) l with | some y=>some (x,y) | none=>none) | none=>none);rw [cg t v,ih l]
   rw [cm];exact hw
  exact key _ rfl (hg0 _ ado) hw'
theorem x7 {g:Ge G} (hg:g.Ok) (ln:Nat->Nat):∀ (ts:List Ty) (x:DL G ts),TV.aS g ln (vp g ts x)=qP g ts x
 | [],_=>rfl
 | [t],x=>gO hg ln t x
 | t::u::r,x=>by
  show TV.aS g ln (_++_)=_;rw [kC,gO hg ln t x.1,x7 hg ln (u::r) x.2];rfl
theorem C6 {p:Sp G} (hp:p.Ok):∀ (d i:Nat) (x:G i) (ln:Nat->Nat),TV.aS p.ge ln (p.view' d i x)=p.enc i x
 | 0,i,x,ln=>vq p.ge ln _
 | d+1,i,x,ln=>by
  have hg:Ge.Ok (⟨p.n,p.enc,fun i x=>p.view' d i x,fun _ _=>none⟩:Ge G):=
   ⟨hp.enc,fun i x ln=>(eS (g:=⟨p.n,p.enc,fun i x=>p.view' d i x,fun _ _=>none⟩) (h:=p.ge) rfl ln _).trans (C6 hp d i x ln),fun i l x ln h=>nomatch h⟩
  have h1:=x7 hg ln (p.ft i) (p.to i x);have h2:=eS (g:=⟨p.n,p.enc,fun i x=>p.view' d i x,fun _ _=>none⟩) (h:=p.ge) rfl ln (vp ⟨p.n,p.enc,fun i x=>p.view' d i x,fun _ _=>none⟩ (p.ft i) (p.to i x));have h3:=nY (g:=⟨p.n,p.enc,fun i x=>p.view' d i x,fun _ _=>none⟩) (h:=p.ge) rfl (p.ft i) (p.to i x);rw [hp.e,<-h3,<-h1,h2];rfl
theorem Sp.Ze {p:Sp G} (hp:p.Ok):p.ge.Ok:=⟨hp.enc,fun i x ln=>C6 hp 6 i x ln,fun i l x ln h=>Ln hp 6 i l x ln h⟩
end
end oZ
end
