/- Parts of my machine and its laws, joined: DnL DnM. No condition. -/
import Derived.Test.YtafgdbaekppjcaaGreatDoorDnK
set_option linter.unusedSectionVars false
set_option linter.unusedVariables false
set_option linter.unusedSimpArgs false
section
namespace oe
open Go hiding Obj mark
open Go.Pl Go.Am Go.Am.As
section
variable {G:Nat->Type} {R:Type}
def Vr (X:Cx G) (rec:Rec G) (a:An) (s:DS G) (gx:RX) (c3:C3) (K:Kn G R):Option R:=match QY (s.rx X.gl gx) with
 | some p=>(match X.fns p.1 with
  | some rf=>if (Nat.beq (p.2.length+1) rf.nargs&&Nat.ble rf.nargs rf.ntmps)&&(Ju s.fr.length s.H&&s.fits s.H.length (.lp .ready s.fr.length)) then
   let ret:DS G->Option R:=fun s'=>match pP X.g s' rf.results with
    | some _=>(match s'.H[s.H.length]? with
     | some (.lp st fi)=>(match (s'.gV s.H.length .dead).leave s.fr.length with
      | some s2=>if Nat.beq fi s.fr.length then (match st with
       | .ready=>K.n s2
       | .done e=>K.at e s2
       | .busy=>none) else none
      | none=>none)
     | _=>none)
    | none=>none
   rec rf.body a (s.H.length+1) ⟨rf.ntmps,fC (.raw (.fA s.H.length)::p.2) 0,s.H++[.lp .ready s.fr.length],s.fr++[(s.sz,s.sl,c3)]⟩ ⟨ret,fun _ _=>none,ret⟩
   else none
  | none=>none)
 | none=>none
def Fm (X:Cx G) (CM:List (dG G)) (rec:Rec G):RC->{R:Type}->An->Nat->DS G->Kn G R->Option R
 | .bad,_,_,_,_,_=>none
 | .skip,_,_,_,s,K=>K.n s
 | .ret,_,_,_,s,K=>K.r s
 | .exit i,_,_,_,s,K=>K.x i s
 | .seq p q,_,a,b,s,K=>jn X.g (b6 p) (fun a s K=>Fm X CM rec p a b s K) (a.sub 0) s ⟨fun s'=>jn X.g (b6 q) (fun a s K=>Fm X CM rec q a b s K) (a.sub 1) s' K,K.x,K.r⟩
 | .cond x p q,_,a,b,s,K=>(match Bt (s.rx X.gl x) with
  | some c=>cond c (jn X.g (b6 p) (fun a s K=>Fm X CM rec p a b s K) (a.sub 0) s K) (jn X.g (b6 q) (fun a s K=>Fm X CM rec q a b s K) (a.sub 1) s K)
  | none=>none)
 | .block i p,_,a,b,s,K=>jn X.g (b6 p) (fun a s K=>Fm X CM rec p a b s K) a s ⟨K.n,fun j s'=>bif Nat.beq j i then K.n s' else K.x j s',K.r⟩
 | .loop p,_,a,b,s,K=>dlp X.g (b6 p) (fun a s K=>jn X.g (b6 p) (fun a s K=>Fm X CM rec p a b s K) a s K) a s K
 | .u5 ops,_,a,_,s,K=>qM X rec false ops 0 a s K.n
 | .draw ops,_,a,_,s,K=>qM X rec true ops 0 a s K.n
 | .jG ops bf,_,a,_,s,K=>dX X rec bf ops 0 a [] [] s K.n
 | .kB ops k ps,_,_,_,s,K=>P7 X CM rec s.H.length ops ⟨s.sz,s.sl,s.H++List.replicate k .ew,s.fr⟩ fun s' fs=>if gm fs ps then K.n s' else none
 | .gh [] (.block i (.loop p)) post,_,a,b,s,K=>dlg X.g (b6 p) b i post (fun a s K=>jn X.g (b6 p) (fun a s K=>Fm X CM rec p a b s K) a s K) a s K
 | .gh pre p post,_,a,b,s,K=>(match Fk X.g b pre s with
  | some s0=>jn X.g (b6 p) (fun a s K=>Fm X CM rec p a b s K) a s0 ⟨fun s'=>X0 X.g b post s' K.n,K.x,K.r⟩
  | none=>none)
 | .AT gx ps as body,_,a,_,s,K=>Vr X rec a s gx (ps,as,body) K
def Ld (X:Cx G) (CM:List (dG G)):Nat->{R:Type}->RC->An->Nat->DS G->Kn G R->Option R
 | 0,_,_,_,_,_,_=>none
 | n+1,_,c,a,b,s,K=>jn X.g (b6 c) (fun a s K=>Fm X CM (fun c a b s K=>Ld X CM n c a b s K) c a b s K) a s K
theorem Wy {E:Env} {hp:Nat->Bool} {gx:RX} {ps:List Nat} {as body:RC} {b:Nat} {Q:Ex->ST->Prop} {s:ST} {f:Nat} {cap:List AV} {rf:RF} (hx:ga E.aF s.tmps gx= .fn f cap) (hf:E.fns f=some rf) (hn:cap.length+1=rf.nargs) (hm:rf.nargs<=rf.ntmps)
 (h:WP E hp rf.body (s.H.length+1) (fun e s'=>match e with
  | .exit _=>False
  | _=>(∃ l,bQ rf.results s'=some l)/\∃ ex,lg s'.H s.H.length=some ex/\Q ex ⟨s.tmps,s'.H.set s.H.length .dead⟩) ⟨⟨rf.ntmps,T.kq (.fA s.H.length::cap) 0⟩,s.H++[.lp .ready s.tmps.toL ps as body]⟩):WP E hp (.AT gx ps as body) b Q s:=by
 obtain ⟨n,e,s',h1,h2⟩:=h;have key:((∃ l,bQ rf.results s'=some l)/\∃ ex,lg s'.H s.H.length=some ex/\Q ex ⟨s.tmps,s'.H.set s.H.length .dead⟩)->(e= .normal\/e= .ret)->WP E hp (.AT gx ps as body) b Q s:=by
  rintro ⟨⟨l,hl⟩,ex,q1,q2⟩ he;refine ⟨n+1,ex,_,?_,q2⟩;have hc:kg E.fns (ak E hp n) (some f) (.fA s.H.length::cap) (s.H++[.lp .ready s.tmps.toL ps as body])=some (oneOf l,s'.H):=by
   have hst:eZ rf (.fA s.H.length::cap)=⟨rf.ntmps,T.kq (.fA s.H.length::cap) 0⟩:=rfl;have hlen:(s.H++[Obj.lp .ready s.tmps.toL ps as body]).length=s.H.length+1:=by simp
   simp only [kg,hf,zaK,hn,hm,and_self,if_true,hst,hlen,h1];rcases he with rfl | rfl<;>simp only [hl]
  rw [ak,hx];dsimp only;rw [hc];dsimp only;rw [q1]
 cases e with
 | exit i=>exact h2.elim
 | normal=>exact key h2 (.inl rfl)
 | ret=>exact key h2 (.inr rfl)
theorem RU {X:Cx G} {E:Env} (hX:X.Ok E) {rec:Rec G} (hr:nD E X.hp X.g rec) {a:An} {b:Nat} {s:DS G} {gx:RX} {ps:List Nat} {as body:RC} {K:Kn G R} {r:R} (h:Vr X rec a s gx (ps,as,body) K=some r):Sat E X.hp X.g (.AT gx ps as body) b s K r:=by
 unfold Vr at h;split at h
 case h_2=>cases h
 rename_i p hp;split at h
 case h_2=>cases h
 rename_i rf hf;split at h
 case isFalse=>cases h
 rename_i hc;simp only [za0] at hc;have e1:=za3 hc.1.1;have e2:=zaB hc.1.2;rw [hX.fns] at hf;have hx:ga E.aF (s.tm X.g) gx= .fn p.1 (TV.aP X.g s.ln p.2):=by rw [DS.mX,<-hX.gl,BP hp];rfl
 have X2:(s.Hv X.g).length=s.H.length:=fG X.g s;refine Wy (hx:=hx) hf (by rw [dy];exact e1) e2 ?_;have hw:=hr _ _ _ _ _ _ h;obtain ⟨k1,k2,k3⟩:=fq (g:=X.g) hc.2.2;have hno:(s.dL s.H.length (.lp .ready s.fr.length)).H=s.H++[.lp .ready s.fr.length]:=by
  unfold DS.dL;dsimp only;rw [if_neg (zc0 _)]
 have hFl:(s.FR X.g).length=s.fr.length:=Ga X.g s;have u6:(⟨rf.ntmps,fC (.raw (.fA s.H.length)::p.2) 0,s.H++[.lp .ready s.fr.length],s.fr++[(s.sz,s.sl,(ps,as,body))]⟩:DS G).ln=s.ln:=by
  show ju _=_;rw [<-hno];have hf0:=hc.2.2;unfold DS.fits at hf0;rw [za0] at hf0;exact xo (za7 _) rfl (by simpa using hf0.2)
 have yM:(⟨rf.ntmps,fC (.raw (.fA s.H.length)::p.2) 0,s.H++[.lp .ready s.fr.length],s.fr++[(s.sz,s.sl,(ps,as,body))]⟩:DS G).FR X.g=s.FR X.g++[(s.tm X.g,(ps,as,body))]:=by
  unfold DS.FR;rw [u6,zal];rfl
 have hst:(⟨rf.ntmps,fC (.raw (.fA s.H.length)::p.2) 0,s.H++[.lp .ready s.fr.length],s.fr++[(s.sz,s.sl,(ps,as,body))]⟩:DS G).st X.g=⟨⟨rf.ntmps,T.kq (.fA s.H.length::TV.aP X.g s.ln p.2) 0⟩,s.Hv X.g++[.lp .ready (s.tm X.g).toL ps as body]⟩:=by
  unfold DS.st DS.tm DS.Hv;rw [u6,yM,lK];congr 1;show (s.H++[TO.lp .ready s.fr.length]).map _=_;rw [zal];have h1:s.H.map (TO.av X.g s.ln (s.FR X.g++[(s.tm X.g,(ps,as,body))]))=s.H.map (TO.av X.g s.ln (s.FR X.g)):=by
   refine nI (n:=s.fr.length) (fun i hi=>?_) hc.2.1;rw [zai (by rw [hFl];exact hi)]
  rw [h1];have h2:(s.FR X.g++[(s.tm X.g,((ps,as,body):C3))])[s.fr.length]?=some (s.tm X.g,(ps,as,body)):=by
   rw [<-hFl,zaj (za7 _),zbl];rfl
  show _++[TO.av X.g s.ln _ (TO.lp .ready s.fr.length)]=_;simp only [TO.av,h2];rfl
 rw [hst] at hw;show WP E X.hp rf.body ((s.Hv X.g).length+1) _ ⟨⟨rf.ntmps,T.kq (.fA (s.Hv X.g).length::_) 0⟩,_⟩;rw [X2];have fin:∀ {s':DS G} {σ:ST},s'.st X.g=σ->s'.FR X.g=s.FR X.g++[(s.tm X.g,(ps,as,body))]->
  (match pP X.g s' rf.results with
   | some _=>(match s'.H[s.H.length]? with
    | some (.lp st fi)=>(match (s'.gV s.H.length .dead).leave s.fr.length with
     | some s2=>if Nat.beq fi s.fr.length then (match st with
      | .ready=>K.n s2
      | .done e=>K.at e s2
      | .busy=>none) else none
     | none=>none)
    | _=>none)
   | none=>none)=some r->(∃ l,bQ rf.results σ=some l)/\∃ ex,lg σ.H s.H.length=some ex/\∃ s2:DS G,s2.st X.g=⟨s.tm X.g,σ.H.set s.H.length .dead⟩/\s2.FR X.g=s.FR X.g/\K.at ex s2=some r:=by
  intro s' σ h1 h2 h3;split at h3
  case h_2=>cases h3
  rename_i l hl;split at h3
  case h_2=>cases h3
  rename_i st fi hlp;split at h3
  case h_2=>cases h3
  rename_i s2 yP;split at h3
  case isFalse=>cases h3
  rename_i X3;have X3:=za3 X3;subst X3;obtain ⟨q1,q2,q3,q4⟩:=eP (g:=X.g) (o':= .dead) hlp rfl;obtain ⟨v1,v2,v3,v4⟩:=xp (g:=X.g) (s:=s) yP (by rw [q3,h2]);have hH:σ.H=s'.Hv X.g:=by rw [<-h1];rfl
  have ZB:s2.st X.g=⟨s.tm X.g,σ.H.set s.H.length .dead⟩:=by
   show (⟨s2.tm X.g,s2.Hv X.g⟩:ST)=_;rw [v1,v4,q4,hH];rfl
  have hF:(s'.FR X.g)[s.fr.length]?=some (s.tm X.g,(ps,as,body)):=by
   rw [h2,<-hFl,zaj (za7 _),zbl];rfl
  have ZC:σ.H[s.H.length]?=some (.lp st (s.tm X.g).toL ps as body):=by
   rw [hH,bl hlp];simp only [TO.av,hF]
  refine ⟨⟨_,by rw [<-h1];exact mG hX.g hl⟩,?_⟩
  cases st with
  | ready=>exact ⟨.normal,by unfold lg;rw [ZC],s2,ZB,v2,h3⟩
  | done e=>exact ⟨e,by unfold lg;rw [ZC],s2,ZB,v2,h3⟩
  | busy=>cases h3
 refine hw.mono ?_;rintro e σ ⟨s',p1,p2,p3⟩;rw [yM] at p2
 cases e with
 | exit i=>cases p3
 | normal=>
  obtain ⟨h1,ex,h2,s2,h3,h4,h5⟩:=fin p1 p2 p3;refine ⟨h1,ex,?_,s2,?_,h4,h5⟩
  ·show lg σ.H (s.Hv X.g).length=_;rw [X2];exact h2
  ·rw [h3];show (⟨_,_⟩:ST)=⟨s.tm X.g,σ.H.set (s.Hv X.g).length .dead⟩;rw [X2]
 | ret=>
  obtain ⟨h1,ex,h2,s2,h3,h4,h5⟩:=fin p1 p2 p3;refine ⟨h1,ex,?_,s2,?_,h4,h5⟩
  ·show lg σ.H (s.Hv X.g).length=_;rw [X2];exact h2
  ·rw [h3];show (⟨_,_⟩:ST)=⟨s.tm X.g,σ.H.set (s.Hv X.g).length .dead⟩;rw [X2]
theorem mD {X:Cx G} {E:Env} (hX:X.Ok E) {CM:List (dG G)} (hM:∀ c∈CM,c.Ok E X.hp X.g) {rec:Rec G} (hr:nD E X.hp X.g rec):∀ (c:RC) {R:Type} (a:An) (b:Nat) (s:DS G) (K:Kn G R) (r:R),Fm X CM rec c a b s K=some r->Sat E X.hp X.g c b s K r
 | .bad,R,a,b,s,K,r,h=>by cases h
 | .skip,R,a,b,s,K,r,h=>RV.2 ⟨s,rfl,rfl,h⟩
 | .ret,R,a,b,s,K,r,h=>Wz.2 ⟨s,rfl,rfl,h⟩
 | .exit i,R,a,b,s,K,r,h=>RW.2 ⟨s,rfl,rfl,h⟩
 | .seq p q,R,a,b,s,K,r,h=>by
  have h1:=mY hX.g (c:=p) (b:=b) (fun a s K r h=>mD hX hM hr p a b s K r h) _ _ _ _ h;refine WA.2 (h1.mono ?_);rintro e σ ⟨s',p1,p2,p3⟩
  cases e with
  | normal=>
   have h2:=mY hX.g (c:=q) (b:=b) (fun a s K r h=>mD hX hM hr q a b s K r h) _ _ _ _ p3;subst p1;refine h2.mono ?_;rintro e σ ⟨s'',q1,q2,q3⟩;exact ⟨s'',q1,by rw [q2,p2],q3⟩
  | exit i=>exact ⟨s',p1,p2,p3⟩
  | ret=>exact ⟨s',p1,p2,p3⟩
 | .cond x p q,R,a,b,s,K,r,h=>by
  rw [Fm] at h;split at h
  case h_2=>cases h
  rename_i c hc;have hx:ga E.aF (s.st X.g).tmps x= .bool c:=by
   show ga E.aF (s.tm X.g) x=_;rw [DS.mX,<-hX.gl,tF hc];rfl
  refine RY.2 ?_;rw [hx]
  cases c with
  | true=>exact mY hX.g (c:=p) (b:=b) (fun a s K r h=>mD hX hM hr p a b s K r h) _ _ _ _ h
  | false=>exact mY hX.g (c:=q) (b:=b) (fun a s K r h=>mD hX hM hr q a b s K r h) _ _ _ _ h
 | .block i p,R,a,b,s,K,r,h=>by
  have h1:=mY hX.g (c:=p) (b:=b) (fun a s K r h=>mD hX hM hr p a b s K r h) _ _ _ _ h;refine xq.2 (h1.mono ?_);rintro e σ ⟨s',p1,p2,p3⟩
  cases e with
  | normal=>exact ⟨s',p1,p2,p3⟩
  | ret=>exact ⟨s',p1,p2,p3⟩
  | exit j=>
   have p3:(bif Nat.beq j i then K.n s' else K.x j s')=some r:=p3;dsimp only;by_cases hj:j=i
   ·subst hj;rw [if_pos rfl];rw [show Nat.beq j j=true from Nat.beq_refl j] at p3;exact ⟨s',p1,p2,p3⟩
   ·rw [if_neg hj];have:Nat.beq j i=false:=by
     cases hb:Nat.beq j i with
     | false=>rfl
     | true=>exact (hj (za3 hb)).elim
    rw [this] at p3;exact ⟨s',p1,p2,p3⟩
 | .loop p,R,a,b,s,K,r,h=>WB hX.g (c:=p) (b:=b) (f:=fun a s K=>jn X.g (b6 p) (fun a s K=>Fm X CM rec p a b s K) a s K) (fun a s K r h=>mY hX.g (c:=p) (b:=b) (fun a s K r h=>mD hX hM hr p a b s K r h) _ _ _ _ h) h
 | .u5 ops,R,a,b,s,K,r,h=>WE.2 (vm hX hr ops h fun s' h1 h2=>⟨s',rfl,h1,h2⟩)
 | .draw ops,R,a,b,s,K,r,h=>RZ.2 (vm hX hr ops h fun s' h1 h2=>⟨s',rfl,h1,h2⟩)
 | .jG ops bf,R,a,b,s,K,r,h=>OF (C1 hX hr ops .nil h fun s' h1 h2=>⟨s',rfl,h1,h2⟩)
 | .kB ops k ps,R,a,b,s,K,r,h=>by
  have u6:(⟨s.sz,s.sl,s.H++List.replicate k .ew,s.fr⟩:DS G).ln=s.ln:=by
   funext j
   show ju _ j=ju _ j;unfold ju;by_cases hj:j < s.H.length
   ·rw [zai hj]
   ·rw [zaj (by omega),zao (by omega:s.H.length<=j)];rw [zbO];split
    ·rename_i o ho;split at ho
     ·injection ho with ho;subst ho;rfl
     ·cases ho
    ·rfl
  have yM:(⟨s.sz,s.sl,s.H++List.replicate k .ew,s.fr⟩:DS G).FR X.g=s.FR X.g:=by unfold DS.FR;rw [u6]
  have htm:(⟨s.sz,s.sl,s.H++List.replicate k .ew,s.fr⟩:DS G).tm X.g=s.tm X.g:=by unfold DS.tm;rw [u6]
  have hHv:(⟨s.sz,s.sl,s.H++List.replicate k .ew,s.fr⟩:DS G).Hv X.g=s.Hv X.g++List.replicate k .ew:=by
   unfold DS.Hv;rw [yM,u6];show (s.H++List.replicate k TO.ew).map _=_;rw [zal,zbB];rfl
  have hw:=Gb hX hM (E:=E) (Q:=fun t H fs=>gm fs ps=true/\∃ s':DS G,s'.st X.g=⟨t,H⟩/\s'.FR X.g=s.FR X.g/\K.n s'=some r) ops h (fun s' fs h1 h2=>by
   split at h2
   case isFalse=>cases h2
   rename_i hp;exact ⟨hp,s',rfl,by rw [h1,yM],h2⟩)
  rw [htm,hHv] at hw;obtain ⟨n,t',H',fs,h1,h2,s',h3,h4,h5⟩:=hw;refine ⟨n+1,.normal,⟨t',H'⟩,?_,s',h3,h4,h5⟩;show (match gD E.aF (kh E.fns (ak E X.hp n)) (s.Hv X.g).length ops (s.tm X.g) (s.Hv X.g++List.replicate k .ew) with
   | some (t,H,fs)=>if gm fs ps=true then some (Ex.normal,(⟨t,H⟩:ST)) else none
   | none=>none)=_
  rw [fG,h1];simp only [h2,if_true]
 | .gh pre p post,R,a,b,s,K,r,h=>by
  by_cases he:∃ i q,pre=[]/\p= .block i (.loop q)
  ·obtain ⟨i,q,h1,h2⟩:=he;have hlt:sizeOf q < sizeOf p:=by rw [h2];simp;omega
   have ih:=fun {R:Type} (a:An) (s:DS G) (K:Kn G R) (r:R) (h:Fm X CM rec q a b s K=some r)=>mD hX hM hr q a b s K r h
   rw [h1,h2] at h ⊢;rw [Fm] at h;exact WG hX.g hX.wk (c:=q) (b:=b) (f:=fun a s K=>jn X.g (b6 q) (fun a s K=>Fm X CM rec q a b s K) a s K) (fun a s K r h=>mY hX.g (c:=q) (b:=b) (fun a s K r h=>ih a s K r h) _ _ _ _ h) h
  rw [Fm] at h
  case x_7=>exact fun i q h1 h2=>he ⟨i,q,h1,h2⟩
  split at h
  case h_2=>cases h
  rename_i s0 h0;obtain ⟨g1,g2⟩:=Bq hX.g hX.wk h0;have h1:=mY hX.g (c:=p) (b:=b) (fun a s K r h=>mD hX hM hr p a b s K r h) _ _ _ _ h;refine LX.2 ?_;rw [g1];refine h1.mono ?_;rintro e σ ⟨s',p1,p2,p3⟩
  cases e with
  | normal=>
   have p3:X0 X.g b post s' K.n=some r:=p3;obtain ⟨s2,g3,g4,p3⟩:=F9 hX.g hX.wk p3;subst p1;dsimp only;rw [g3];exact ⟨s2,rfl,by rw [g4,p2,g2],p3⟩
  | exit i=>exact ⟨s',p1,by rw [p2,g2],p3⟩
  | ret=>exact ⟨s',p1,by rw [p2,g2],p3⟩
 | .AT gx ps as body,R,a,b,s,K,r,h=>RU hX hr h
theorem vn {X:Cx G} {E:Env} (hX:X.Ok E) {CM:List (dG G)} (hM:∀ c∈CM,c.Ok E X.hp X.g):∀ n,nD E X.hp X.g (fun c a b s K=>Ld X CM n c a b s K)
 | 0=>fun c a b s K r h=>by cases h
 | n+1=>fun c a b s K r h=>mY hX.g (c:=c) (b:=b) (fun a s K r h=>mD hX hM (vn hX hM n) c a b s K r h) _ _ _ _ h
def vP:Nat->TV G->List (TV G)
 | 1,v=>[v]
 | _,v=>match v with
  | .aY l=>l
  | v=>[v]
def Vt (X:Cx G) (CM:List (dG G)) (n:Nat) (rf:RF) (args:List Sh) (ts rs:List Ty) (a:An) (x:DL G ts):Option (DL G rs):=
 let vs:=pQ X.g args (aI X.g ts x);let fin:DS G->Option (DL G rs):=fun s'=>match pP X.g s' rf.results with
  | some l=>(match Cr s'.H 6 (y5 l) with
   | some w=>if Nat.beq (vP rs.length w).length rs.length then nr X.g rs (vP rs.length w) else none
   | none=>none)
  | none=>none
 if Nat.beq vs.length rf.nargs&&Nat.ble rf.nargs rf.ntmps then Ld X CM n rf.body a 0 ⟨rf.ntmps,fC vs 0,[],[]⟩ ⟨fin,fun _ _=>none,fin⟩ else none
theorem R1 {g:Ge G} {ln:Nat->Nat} {n:Nat} {v:TV G} (h:(vP n v).length=n):oneOf (TV.aP g ln (vP n v))=v.av g ln:=by
 match n,v with
 | 1,v=>rfl
 | 0,.aY []=>rfl
 | 0,.aY (_::_)=>simp [vP] at h
 | n+2,.aY []=>simp [vP] at h
 | n+2,.aY [_]=>simp [vP] at h
 | n+2,.aY (a::b::l)=>rfl
 | 0,.int .. | 0,.bool _ | 0,.str _ | 0,.aQ .. | 0,.gr .. | 0,.o4 _ | 0,.agg _ | 0,.bR _ | 0,.fn .. | 0,.po .. | 0,.own _ | 0,.pe .. | 0,.pa .. | 0,.sa .. | 0,.arr .. | 0,.dO .. | 0,.raw _=>simp [vP] at h
 | n+2,.int .. | n+2,.bool _ | n+2,.str _ | n+2,.aQ .. | n+2,.gr .. | n+2,.o4 _ | n+2,.agg _ | n+2,.bR _ | n+2,.fn .. | n+2,.po .. | n+2,.own _ | n+2,.pe .. | n+2,.pa .. | n+2,.sa .. | n+2,.arr .. | n+2,.dO .. | n+2,.raw _=>simp [vP] at h
theorem R2 {X:Cx G} {E:Env} (hX:X.Ok E) {CM:List (dG G)} (hM:∀ c∈CM,c.Ok E X.hp X.g) {n f:Nat} {rf:RF} (hf:E.fns f=some rf) {args:List Sh} {ts rs:List Ty} {a:An} {x:DL G ts} {r:DL G rs} (h:Vt X CM n rf args ts rs a x=some r):
 Pt E X.hp f (TV.aP X.g (fun _=>0) (pQ X.g args (aI X.g ts x))) (oneOf (vN X.g rs r)):=by
 unfold Vt at h;dsimp only at h;split at h
 case isFalse=>cases h
 rename_i hc;rw [za0] at hc;have e1:=za3 hc.1;have e2:=zaB hc.2;refine aaW hf (by rw [dy];exact e1) e2 ?_;have hw:=vn hX hM n _ _ _ _ _ _ h;have hst:(⟨rf.ntmps,fC (pQ X.g args (aI X.g ts x)) 0,[],[]⟩:DS G).st X.g=⟨eZ rf (TV.aP X.g (fun _=>0) (pQ X.g args (aI X.g ts x))),[]⟩:=by
  show (⟨⟨_,dJ X.g _ _⟩,[]⟩:ST)=_;rw [lK];rfl
 rw [hst] at hw;have fin:∀ {s':DS G} {σ:ST},s'.st X.g=σ->(match pP X.g s' rf.results with
  | some l=>(match Cr s'.H 6 (y5 l) with
   | some w=>if Nat.beq (vP rs.length w).length rs.length then nr X.g rs (vP rs.length w) else none
   | none=>none)
  | none=>none)=some r->∃ l,bQ rf.results σ=some l/\pack σ.H (oneOf l)=some (oneOf (vN X.g rs r)):=by
  intro s' σ h1 h2;split at h2
  case h_2=>cases h2
  rename_i l hl;split at h2
  case h_2=>cases h2
  rename_i w hw;split at h2
  case isFalse=>cases h2
  rename_i hlen;have hlen:=za3 hlen;refine ⟨_,by rw [<-h1];exact mG hX.g hl,?_⟩;have h3:=mz hX.g 6 hw;rw [vo] at h3;rw [<-kH hX.g s'.ln _ _ _ h2,R1 hlen,<-h1];exact h3
 refine hw.mono ?_;rintro e σ ⟨s',p1,p2,p3⟩
 cases e with
 | exit i=>cases p3
 | normal=>exact fin p1 p3
 | ret=>exact fin p1 p3
def LY (X:Cx G) (CM:List (dG G)) (n:Nat) (rf:RF) (i:AU) (ts:List Ty) (o1 o2:dA) (a:An) (x:DL G ts):Option (DL G o1.ts⊕DL G o2.ts):=
 let s0:=i.st X.g rf.ntmps (aI X.g ts x);let fin:DS G->Option (DL G o1.ts⊕DL G o2.ts):=fun s'=>match pP X.g s' rf.results with
  | some l=>(match o1.coll X.g l s' with
   | some w=>some (.inl w)
   | none=>(match o2.coll X.g l s' with
    | some w=>some (.inr w)
    | none=>none))
  | none=>none
 if Nat.beq i.sl.length rf.nargs&&(Nat.ble rf.nargs rf.ntmps&&rm s0.fr) then Ld X CM n rf.body a s0.H.length s0 ⟨fin,fun _ _=>none,fin⟩ else none
theorem OG {X:Cx G} {E:Env} (hX:X.Ok E) {CM:List (dG G)} (hM:∀ c∈CM,c.Ok E X.hp X.g) {n f:Nat} {rf:RF} (hf:E.fns f=some rf) {i:AU} {ts:List Ty} {o1 o2:dA} {a:An} {x:DL G ts} {u:DL G o1.ts⊕DL G o2.ts} (h:LY X CM n rf i ts o1 o2 a x=some u):dA.Is2 E X.hp X.g f (i.st X.g 0 (aI X.g ts x)) o1 o2 u:=by
 unfold LY at h;dsimp only at h;split at h
 case isFalse=>cases h
 rename_i hc;simp only [za0] at hc;have e1:=za3 hc.1;have e2:=zaB hc.2.1;obtain ⟨m,e,σ,h1,s',p1,p2,p3⟩:=vn hX hM n _ _ _ _ _ _ h;have hst:(i.st X.g rf.ntmps (aI X.g ts x)).st X.g=⟨eZ rf (TV.aP X.g (i.st X.g 0 (aI X.g ts x)).ln (vals (i.st X.g 0 (aI X.g ts x)).sl)),(i.st X.g 0 (aI X.g ts x)).Hv X.g⟩:=by
  show (⟨⟨rf.ntmps,dJ X.g (i.st X.g 0 (aI X.g ts x)).ln (i.st X.g 0 (aI X.g ts x)).sl⟩,_⟩:ST)=⟨⟨rf.ntmps,T.kq _ 0⟩,_⟩;have hk:(i.st X.g 0 (aI X.g ts x)).sl=fC (vals (i.st X.g 0 (aI X.g ts x)).sl) 0:=zV i.sl 0 _;rw [<-lK,<-hk];rfl
 rw [hst] at h1;have hlen:(TV.aP X.g (i.st X.g 0 (aI X.g ts x)).ln (vals (i.st X.g 0 (aI X.g ts x)).sl)).length=rf.nargs:=by
  rw [dy,<-e1];exact Dr i.sl 0 _
 have hb:((i.st X.g 0 (aI X.g ts x)).Hv X.g).length=(i.st X.g rf.ntmps (aI X.g ts x)).H.length:=by rw [fG];rfl
 have key:(match pP X.g s' rf.results with
  | some l=>(match o1.coll X.g l s' with
   | some w=>some (.inl w)
   | none=>(match o2.coll X.g l s' with
    | some w=>some (.inr w)
    | none=>none))
  | none=>none)=some u->(e= .normal\/e= .ret)->dA.Is2 E X.hp X.g f (i.st X.g 0 (aI X.g ts x)) o1 o2 u:=by
  intro h3 he;split at h3
  case h_2=>cases h3
  rename_i l hl;have hr:=mG hX.g hl;rw [p1] at hr;have Qp:kg E.fns (ak E X.hp m) (some f) (TV.aP X.g (i.st X.g 0 (aI X.g ts x)).ln (vals (i.st X.g 0 (aI X.g ts x)).sl)) ((i.st X.g 0 (aI X.g ts x)).Hv X.g)=some (oneOf (TV.aP X.g s'.ln l),s'.Hv X.g):=by
   simp only [kg,hf,hlen,e2,and_self,if_true];rw [hb,h1];rcases he with rfl | rfl<;>simp only [hr]<;>rw [<-p1]<;>rfl
  have fin:∀ {o:dA} {w:DL G o.ts},o.coll X.g l s'=some w->dA.Is E X.hp X.g f (i.st X.g 0 (aI X.g ts x)) o (aI X.g o.ts w):=by
   intro o w hw;obtain ⟨q1,q2,q3⟩:=dA.rq hX.g hw;have yM:(⟨0,[],o.mem X.g (aI X.g o.ts w),(i.st X.g 0 (aI X.g ts x)).fr⟩:DS G).FR X.g=(i.st X.g 0 (aI X.g ts x)).FR X.g:=qj (g:=X.g) hc.2.2;refine ⟨m,?_,yM⟩;rw [Qp,q1,q2];refine congrArg (fun H=>some (oneOf (TV.aP X.g s'.ln l),H)) ?_;show _=(o.mem X.g (aI X.g o.ts w)).map (TO.av X.g (ju (o.mem X.g (aI X.g o.ts w))) (DS.FR X.g ⟨0,[],o.mem X.g (aI X.g o.ts w),(i.st X.g 0 (aI X.g ts x)).fr⟩));rw [yM,q1,q3,<-show s'.FR X.g=(i.st X.g 0 (aI X.g ts x)).FR X.g from p2];rfl
  split at h3
  ·rename_i w hw;injection h3 with h3;subst h3
   exact fin hw
  ·split at h3
   case h_2=>cases h3
   rename_i w hw;injection h3 with h3;subst h3
   exact fin hw
 cases e with
 | exit j=>cases p3
 | normal=>exact key p3 (.inl rfl)
 | ret=>exact key p3 (.inr rfl)
def LZ (X:Cx G) (CM:List (dG G)) (n:Nat) (rf:RF) (args:List Sh) (ts:List Ty) (t:Ty) (a:An) (x:DL G ts):Option (List (t.D G)):=
 let vs:=pQ X.g args (aI X.g ts x);let fin:DS G->Option (List (t.D G)):=fun s'=>match pP X.g s' rf.results with
  | some [.own id]=>(match s'.H[id]? with
   | some (.aQ fl u l)=>if h:u=t then (if fl.free then some (h▸l) else none) else none
   | some (.cQ fl sz es)=>if fl.free&&Nat.beq sz (t.n X.g) then pg X.g t es else none
   | _=>none)
  | _=>none
 if Nat.beq vs.length rf.nargs&&Nat.ble rf.nargs rf.ntmps then Ld X CM n rf.body a 0 ⟨rf.ntmps,fC vs 0,[],[]⟩ ⟨fin,fun _ _=>none,fin⟩ else none
theorem R3 {fl:Fl} (h:fl.free=true):fl= .norm\/fl= .nil:=by cases fl<;>first | exact .inl rfl | exact .inr rfl | cases h
theorem z8 {H:List Obj} {id sz:Nat} {fl:Fl} {es:List (List AV)} (hH:H[id]?=some (.live fl sz es)) (hf:fl.free=true) (hb:AV.bO 0 es=true) (hne:es≠[]):qU H (.own id es.length 0 es.length)=some (.aY [.aJ 0 0 sz 0,.ro es]):=by
 unfold qU;simp only [hH];rw [if_pos ⟨trivial,trivial,trivial⟩]
 cases es with
 | nil=>exact (hne rfl).elim
 | cons e es=>
  dsimp only;rw [if_pos ⟨R3 hf,hb⟩]
theorem OH {X:Cx G} {E:Env} (hX:X.Ok E) {CM:List (dG G)} (hM:∀ c∈CM,c.Ok E X.hp X.g) {n f:Nat} {rf:RF} (hf:E.fns f=some rf) {args:List Sh} {ts:List Ty} {t:Ty} {a:An} {x:DL G ts} {r:List (t.D G)} (h:LZ X CM n rf args ts t a x=some r) (hne:r≠[]):
 ∃ n,kh E.fns (ak E X.hp n) f (.aJ 0 0 0 0::TV.aP X.g (fun _=>0) (pQ X.g args (aI X.g ts x)))=some (.aY [.aJ 0 0 (t.n X.g) 0,.ro (r.map (enc X.g t))]):=by
 unfold LZ at h;dsimp only at h;split at h
 case isFalse=>cases h
 rename_i hc;rw [za0] at hc;have e1:=za3 hc.1;have e2:=zaB hc.2;have hw:=vn hX hM n _ _ _ _ _ _ h;have hst:(⟨rf.ntmps,fC (pQ X.g args (aI X.g ts x)) 0,[],[]⟩:DS G).st X.g=⟨eZ rf (TV.aP X.g (fun _=>0) (pQ X.g args (aI X.g ts x))),[]⟩:=by
  show (⟨⟨_,dJ X.g _ _⟩,[]⟩:ST)=_;rw [lK];rfl
 rw [hst] at hw;obtain ⟨n,e,σ,h1,s',p1,p2,p3⟩:=hw;have fin:(match pP X.g s' rf.results with
  | some [.own id]=>(match s'.H[id]? with
   | some (.aQ fl u l)=>if h:u=t then (if fl.free then some (h▸l) else none) else none
   | some (.cQ fl sz es)=>if fl.free&&Nat.beq sz (t.n X.g) then pg X.g t es else none
   | _=>none)
  | _=>none)=some r->∃ v,bQ rf.results σ=some [v]/\qU σ.H v=some (.aY [.aJ 0 0 (t.n X.g) 0,.ro (r.map (enc X.g t))]):=by
  intro h2;split at h2
  case h_2=>cases h2
  rename_i id hl;have hres:bQ rf.results σ=some [.own id (s'.ln id) 0 (s'.ln id)]:=by rw [<-p1];exact mG hX.g hl
  refine ⟨_,hres,?_⟩;have hH:σ.H=s'.Hv X.g:=by rw [<-p1];rfl
  rw [hH];have ZD:r.map (enc X.g t)≠[]:=by intro h;exact hne (List.map_eq_nil_iff.1 h)
  split at h2
  ·rename_i fl u l hid;split at h2
   case isFalse=>cases h2
   rename_i e;subst e;split at h2
   case isFalse=>cases h2
   rename_i hfr;injection h2 with h2
   subst h2;rw [nM hid];have:=z8 (bl (g:=X.g) hid) hfr (gk (cT hX.g u).bD l) ZD;rw [zaa] at this;exact this
  ·rename_i fl sz es hid;split at h2
   case isFalse=>cases h2
   rename_i hfr;rw [za0] at hfr;have hsz:=za3 hfr.2;subst hsz;obtain ⟨q1,q2⟩:=iL hX.g s'.ln h2;have e:s'.ln id=es.length:=by unfold DS.ln ju;rw [hid];rfl
   have hg:=bl (g:=X.g) hid;simp only [TO.av,q1] at hg;have:=z8 hg hfr.1 (gk (cT hX.g t).bD r) ZD;rw [zaa] at this;rw [e,q2];exact this
  ·cases h2
 have done:(e= .normal\/e= .ret)->(∃ v,bQ rf.results σ=some [v]/\qU σ.H v=some (.aY [.aJ 0 0 (t.n X.g) 0,.ro (r.map (enc X.g t))]))->∃ n,kh E.fns (ak E X.hp n) f (.aJ 0 0 0 0::TV.aP X.g (fun _=>0) (pQ X.g args (aI X.g ts x)))=some (.aY [.aJ 0 0 (t.n X.g) 0,.ro (r.map (enc X.g t))]):=by
  rintro he ⟨v,h2,h3⟩;refine ⟨n,?_⟩;have hl:(TV.aP X.g (fun _=>0) (pQ X.g args (aI X.g ts x))).length=rf.nargs:=by rw [dy];exact e1
  unfold kh;rw [hf];dsimp only;rw [if_neg (by rw [zaK,hl];omega)];have hcm:∀ as:List AV,FM (ak E X.hp n) rf (.aJ 0 0 0 0::as)=if as.length=rf.nargs/\rf.nargs<=rf.ntmps then
   (match ak E X.hp n rf.body 0 ⟨eZ rf as,[]⟩ with
    | some (.exit _,_)=>none
    | some (_,s')=>(match bQ rf.results s' with
     | some [v]=>qU s'.H v
     | _=>none)
    | none=>none)
   else none:=fun _=>rfl
  rw [hcm,if_pos ⟨hl,e2⟩,h1];rcases he with rfl | rfl<;>(dsimp only;rw [h2];exact h3)
 cases e with
 | exit i=>cases p3
 | normal=>exact done (.inl rfl) (fin p3)
 | ret=>exact done (.inr rfl) (fin p3)
end
end oe
end
section
namespace oe
open Go hiding Obj mark
open Go.Pl Go.Am Go.Am.As
structure Sp (G:Nat->Type) where
 n:Nat->Nat
 ft:Nat->List Ty
 to:(i:Nat)->G i->DL G (ft i)
 of:(i:Nat)->DL G (ft i)->G i
 enc:(i:Nat)->G i->List AV
section
variable {G:Nat->Type}
def nTy (n:Nat->Nat):Ty->Nat
 | .st i=>n i
 | .arr k t=>k*nTy n t
 | _=>1
def p7 (n:Nat->Nat):List Ty->List (TV G)->Option (List (TV G))
 | [],l=>(match l with | []=>some [] | _::_=>none)
 | t::ts,l=>(match t with
  | .st i=>if Nat.ble (n i) l.length then (match p7 n ts (l.drop (n i)) with | some r=>some (.agg (l.take (n i))::r) | none=>none) else none
  | .arr k u=>if Nat.ble (k*nTy n u) l.length then (match p7 n ts (l.drop (k*nTy n u)) with | some r=>some (.agg (l.take (k*nTy n u))::r) | none=>none) else none
  | _=>(match l with
   | v::l=>if Li v then (match p7 n ts l with | some r=>some (v::r) | none=>none) else none
   | []=>none))
def Sp.mk' (p:Sp G):Nat->(i:Nat)->List (TV G)->Option (G i)
 | 0,_,_=>none
 | d+1,i,l=>
  let g:Ge G:=⟨p.n,p.enc,fun i x=>[],fun i l=>p.mk' d i l⟩;match p7 p.n (p.ft i) l with
  | some q=>(match nr g (p.ft i) q with | some w=>some (p.of i w) | none=>none)
  | none=>none
def vr (g:Ge G):(ts:List Ty)->DL G ts->List (TV G)
 | [],_=>[]
 | [t],x=>(view g t x).cells g
 | t::u::r,x=>(view g t x.1).cells g++vr g (u::r) x.2
def qW (g:Ge G):(ts:List Ty)->DL G ts->List AV
 | [],_=>[]
 | [t],x=>enc g t x
 | t::u::r,x=>enc g t x.1++qW g (u::r) x.2
def Sp.view' (p:Sp G):Nat->(i:Nat)->G i->List (TV G)
 | 0,i,x=>(p.enc i x).map .raw
 | d+1,i,x=>
  let g:Ge G:=⟨p.n,p.enc,fun i x=>p.view' d i x,fun _ _=>none⟩
  vr g (p.ft i) (p.to i x)
def Sp.ge (p:Sp G):Ge G:=⟨p.n,p.enc,fun i x=>p.view' 6 i x,fun i l=>p.mk' 6 i l⟩
structure Sp.Ok (p:Sp G):Prop where
 enc:∀ i,mZ (p.enc i) (p.n i)
 e:∀ i x,p.enc i x=qW p.ge (p.ft i) (p.to i x)
 to:∀ i w,p.to i (p.of i w)=w
theorem ec {g h:Ge G} (e:g.enc=h.enc):∀ t:Ty,enc g t=enc h t
 | .int _ | .bool | .str=>rfl
 | .list t=>by funext l;show [AV.ro _]=[AV.ro _];rw [ec e t]
 | .kA t=>by funext l;show [CU _ _]=[CU _ _];rw [ec e t]
 | .st i=>by funext x;show g.enc i x=h.enc i x;rw [e]
 | .ptr t=>by funext x;show [AV.bR _]=[AV.bR _];rw [ec e t]
 | .dO t=>by funext x;show [FN _ _]=[FN _ _];rw [ec e t]
 | .arr n t=>by funext a;show (List.map _ _).flatten=(List.map _ _).flatten;rw [ec e t]
theorem nZ {g h:Ge G} (e:g.enc=h.enc):∀ (ts:List Ty) (x:DL G ts),qW g ts x=qW h ts x
 | [],_=>rfl
 | [t],x=>congrFun (ec e t) x
 | t::u::r,x=>by
  show enc g t x.1++qW g (u::r) x.2=enc h t x.1++qW h (u::r) x.2;rw [ec e t,nZ e (u::r) x.2]
mutual
theorem DM {g h:Ge G} (e:g.enc=h.enc) (ln:Nat->Nat):∀ v:TV G,v.av g ln=v.av h ln
 | .int _ _ | .bool _ | .str _ | .po .. | .own _ | .pe .. | .pa .. | .sa .. | .raw _=>rfl
 | .aQ t l=>by rw [TV.av,TV.av,ec e t]
 | .gr t l=>by rw [TV.av,TV.av,ec e t]
 | .dO t l=>by rw [TV.av,TV.av,ec e t]
 | .arr n t a=>by show AV.agg _=AV.agg _;rw [ec e t]
 | .o4 es=>by rw [TV.av,TV.av,ya e ln es]
 | .agg l=>by rw [TV.av,TV.av,eI e ln l]
 | .aY l=>by rw [TV.av,TV.av,eI e ln l]
 | .bR l=>by rw [TV.av,TV.av,eI e ln l]
 | .fn f l=>by rw [TV.av,TV.av,eI e ln l]
theorem eI {g h:Ge G} (e:g.enc=h.enc) (ln:Nat->Nat):∀ l:List (TV G),TV.aP g ln l=TV.aP h ln l
 | []=>rfl
 | x::l=>by rw [TV.aP,TV.aP,DM e ln x,eI e ln l]
theorem ya {g h:Ge G} (e:g.enc=h.enc) (ln:Nat->Nat):∀ l:List (List (TV G)),TV.cV g ln l=TV.cV h ln l
 | []=>rfl
 | x::l=>by rw [TV.cV,TV.cV,eI e ln x,ya e ln l]
end
theorem GG {g:Ge G} {ln:Nat->Nat} {v:TV G} (h:Li v=true):(v.av g ln).cells=[v.av g ln]:=by
 cases v with
 | agg l=>cases h
 | aY l=>cases h
 | arr n t a=>cases h
 | raw a=>cases a<;>first | rfl | cases h
 | gr t o=>cases o<;>rfl
 | dO t o=>cases o<;>rfl
 | sa i lo len=>simp only [TV.av];split<;>rfl
 | _=>rfl
theorem tG {g:Ge G} {ln:Nat->Nat} {n:Nat->Nat}:∀ {ts:List Ty} {l q:List (TV G)},p7 n ts l=some q->TV.aP g ln l=q.flatMap fun v=>(v.av g ln).cells
 | [],l,q,h=>by
  cases l with
  | nil=>injection h with h;subst h;rfl
  | cons x l=>cases h
 | t::ts,l,q,h=>by
  have ag:∀ {k:Nat},(if Nat.ble k l.length then (match p7 n ts (l.drop k) with | some r=>some (.agg (l.take k)::r) | none=>none) else none)=some q->TV.aP g ln l=q.flatMap fun v=>(v.av g ln).cells:=by
   intro k h;split at h
   case isFalse=>cases h
   split at h
   case h_2=>cases h
   rename_i r hr;injection h with h;subst h
   have ih:=tG (g:=g) (ln:=ln) hr;rw [zb0,<-ih];show _=TV.aP g ln (l.take k)++_;rw [<-kJ,zbU]
  have on:(match l with
   | v::l=>if Li v then (match p7 n ts l with | some r=>some (v::r) | none=>none) else none
   | []=>none)=some q->TV.aP g ln l=q.flatMap fun v=>(v.av g ln).cells:=by
   intro h;split at h
   case h_2=>cases h
   rename_i v l;split at h
   case isFalse=>cases h
   rename_i ho;split at h
   case h_2=>cases h
   rename_i r hr;injection h with h;subst h
   rw [zb0,TV.aP,tG (g:=g) (ln:=ln) hr,GG ho];rfl
  cases t with
  | st i=>exact ag h
  | arr k u=>exact ag h
  | _=>exact on h
theorem yb (g:Ge G):∀ (ts:List Ty) (x:DL G ts),(vN g ts x).flatMap AV.cells=qW g ts x
 | [],_=>rfl
 | [t],x=>by
  show (va g t x).cells++[]=enc g t x;rw [zbm];exact gM g t x
 | t::u::r,x=>by
  show (va g t x.1).cells++(vN g (u::r) x.2).flatMap AV.cells=_;rw [yb g (u::r),gM];rfl
theorem MV {p:Sp G} (hp:p.Ok):∀ (d i:Nat) (l:List (TV G)) (x:G i) (ln:Nat->Nat),p.mk' d i l=some x->TV.aP p.ge ln l=p.enc i x
 | 0,i,l,x,ln,h=>by cases h
 | d+1,i,l,x,ln,h=>by
  rw [Sp.mk'] at h;split at h
  case h_2=>cases h
  rename_i q hq;split at h
  case h_2=>cases h
  rename_i w hw;injection h with h;subst h
  have key:∀ (g:Ge G),g.enc=p.enc->g.Ok->nr g (p.ft i) q=some w->TV.aP p.ge ln l=p.enc i (p.of i w):=by
   intro g he hg hw;have h1:=kH hg ln _ _ _ hw;rw [tG (g:=p.ge) (ln:=ln) hq,hp.e,hp.to,<-nZ (g:=g) (h:=p.ge) he,<-yb,<-h1,bV,List.flatMap_map];congr 1;funext v
   rw [DM (g:=g) (h:=p.ge) he]
  have hg0:∀ (vw:(i:Nat)->G i->List (TV G)),(∀ i x ln,TV.aP p.ge ln (vw i x)=p.enc i x)->Ge.Ok (⟨p.n,p.enc,vw,fun i l=>p.mk' d i l⟩:Ge G):=by
   intro vw hv;exact ⟨hp.enc,fun i x ln=>(eI (g:=⟨p.n,p.enc,vw,fun i l=>p.mk' d i l⟩) (h:=p.ge) rfl ln _).trans (hv i x ln),fun i l x ln h=>(eI (g:=⟨p.n,p.enc,vw,fun i l=>p.mk' d i l⟩) (h:=p.ge) rfl ln _).trans (MV hp d i l x ln h)⟩
  have adw:∀ (i:Nat) (x:G i) (ln:Nat->Nat),TV.aP p.ge ln ((p.enc i x).map .raw)=p.enc i x:=fun i x ln=>vt p.ge ln _
  have hw':nr (⟨p.n,p.enc,fun i x=>(p.enc i x).map .raw,fun i l=>p.mk' d i l⟩:Ge G) (p.ft i) q=some w:=by
   have cg:∀ (t:Ty) (v:TV G),yK (⟨p.n,p.enc,fun i x=>(p.enc i x).map .raw,fun i l=>p.mk' d i l⟩:Ge G) t v=yK (⟨p.n,p.enc,fun i x=>[],fun i l=>p.mk' d i l⟩:Ge G) t v:=by
    intro t;induction t with
    | list t ih=>
     intro v;show YJ t _ v=YJ t _ v;congr 1;funext cs
     exact ih _
    | arr n t ih=>
     intro v;show X5 n t _ v=X5 n t _ v;congr 1;funext cs
     exact ih _
    | ptr t ih=>
     intro v;show asP _ v=asP _ v;congr 1;funext cs
     exact ih _
    | dO t ih=>
     intro v;show X6 t _ v=X6 t _ v;congr 1;funext cs
     exact ih _
    | _=>intro v;rfl
   have cm:∀ (ts:List Ty) (l:List (TV G)),nr (⟨p.n,p.enc,fun i x=>(p.enc i x).map .raw,fun i l=>p.mk' d i l⟩:Ge G) ts l=nr (⟨p.n,p.enc,fun i x=>[],fun i l=>p.mk' d i l⟩:Ge G) ts l:=by
    intro ts;induction ts with
    | nil=>intro l;rfl
    | cons t ts ih=>
     intro l
     cases ts with
     | nil=>
      cases l with
      | nil=>rfl
      | cons v l=>cases l with
       | nil=>exact cg t v
       | cons _ _=>rfl
     | cons u r=>
      cases l with
      | nil=>rfl
      | cons v l=>
       show (match yK _ t v with | some x=>(match nr _ (u::r) l with | some y=>some (x,y) | none=>none) | none=>none)=(match yK _ t v with | some x=>(match nr _ (u::r) l with | some y=>some (x,y) | none=>none) | none=>none);rw [cg t v,ih l]
   rw [cm];exact hw
  exact key _ rfl (hg0 _ adw) hw'
theorem yc {g:Ge G} (hg:g.Ok) (ln:Nat->Nat):∀ (ts:List Ty) (x:DL G ts),TV.aP g ln (vr g ts x)=qW g ts x
 | [],_=>rfl
 | [t],x=>gJ hg ln t x
 | t::u::r,x=>by
  show TV.aP g ln (_++_)=_;rw [kJ,gJ hg ln t x.1,yc hg ln (u::r) x.2];rfl
theorem DN {p:Sp G} (hp:p.Ok):∀ (d i:Nat) (x:G i) (ln:Nat->Nat),TV.aP p.ge ln (p.view' d i x)=p.enc i x
 | 0,i,x,ln=>vt p.ge ln _
 | d+1,i,x,ln=>by
  have hg:Ge.Ok (⟨p.n,p.enc,fun i x=>p.view' d i x,fun _ _=>none⟩:Ge G):=
   ⟨hp.enc,fun i x ln=>(eI (g:=⟨p.n,p.enc,fun i x=>p.view' d i x,fun _ _=>none⟩) (h:=p.ge) rfl ln _).trans (DN hp d i x ln),fun i l x ln h=>nomatch h⟩
  have h1:=yc hg ln (p.ft i) (p.to i x);have h2:=eI (g:=⟨p.n,p.enc,fun i x=>p.view' d i x,fun _ _=>none⟩) (h:=p.ge) rfl ln (vr ⟨p.n,p.enc,fun i x=>p.view' d i x,fun _ _=>none⟩ (p.ft i) (p.to i x));have h3:=nZ (g:=⟨p.n,p.enc,fun i x=>p.view' d i x,fun _ _=>none⟩) (h:=p.ge) rfl (p.ft i) (p.to i x);rw [hp.e,<-h3,<-h1,h2];rfl
theorem Sp.abb {p:Sp G} (hp:p.Ok):p.ge.Ok:=⟨hp.enc,fun i x ln=>DN hp 6 i x ln,fun i l x ln h=>MV hp 6 i l x ln h⟩
end
end oe
end
