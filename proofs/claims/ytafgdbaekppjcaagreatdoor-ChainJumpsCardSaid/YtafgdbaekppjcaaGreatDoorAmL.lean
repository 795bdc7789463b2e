/- Parts of my machine and its laws, joined: AmL AmM AmN. No condition. -/
import Derived.Test.YtafgdbaekppjcaaGreatDoorAmG
set_option linter.unusedSectionVars false
set_option linter.unusedVariables false
set_option linter.unusedSimpArgs false
section
namespace Go.Am
section
variable {P:Program} {c:Ctx}
theorem iF (sz:Nat):∀ n cs,(chunks sz n cs).length=n
 | 0,_=>rfl
 | n+1,cs=>by simp [chunks,iF sz n]
theorem fj (sz:Nat):∀ (n:Nat) (cs:List AV) (i:Nat) (hi:i < (chunks sz n cs).length),(chunks sz n cs)[i]=(cs.drop (i*sz)).take sz
 | 0,_,i,hi=>by simp [chunks] at hi
 | n+1,cs,0,_=>by simp [chunks]
 | n+1,cs,i+1,hi=>by
  simp only [chunks,zbQ];rw [fj sz n];rw [zbP,zaC,zb2,Nat.add_comm sz]
theorem GV {cs:List AV} {a:Addr} (h:V c (.bR cs) (.pointer (some a))) (sz n cap:Nat) (hn:n*sz<=cs.length) (hcap:n<=cap):
 V c (.ro (chunks sz n cs)) (.slice (some a) n cap):=by
 cases h with
 | bR _ _ vs hb0 h1 h3 h4=>
  have hl:=iF sz n cs;conv=>rhs;rw [<-hl]
  have hle:∀ i,i < n->i*sz+sz<=n*sz:=by
   intro i hi;have:=zag sz (show i+1<=n by omega);rw [zaC,zb2] at this;exact this
  have hlen:∀ i (hi:i < (chunks sz n cs).length),(chunks sz n cs)[i].length=sz:=by
   intro i hi;rw [fj];have:=hle i (by rw [<-hl];exact hi);simp;omega
  refine .ro _ _ _ sz (fun i j=>vs (i*sz+j)) (fun i j hi hj=>by simp only [fj,zar,zas];exact hb0 _ _) (by omega) (fun hne h0=>?_) hlen (fun i j hi hj=>?_) (fun i j hi hj=>?_)
  ·refine h1 ?_;rintro rfl;have hn0:0 < n:=by rw [<-hl];exact zb3.2 hne
   have:=hle 0 hn0;simp at hn;omega
  ·rw [hlen i hi] at hj;have:=hle i (by rw [<-hl];exact hi);have h5:=h3 (i*sz+j) (by omega);rw [<-h5];congr 2;omega
  ·have hj':=hj;rw [hlen i hi] at hj';have:=hle i (by rw [<-hl];exact hi);have h5:=h4 (i*sz+j) (by omega);have e:(chunks sz n cs)[i][j]=cs[i*sz+j]'(by omega):=by
    simp only [fj,zar,zas]
   rw [e];exact h5
theorem WN {t e:TypeId} {len sz:Nat} (ht:P.underlying t=some (.array len e)) (hsz:cW P e=some sz) {x r:AV} {xv:Value} {lo hi:Option AV} {Cv hiv:Option Value}
 (hx:V c x xv) (hlo:∀ y,lo=some y->∃ yv,Cv=some yv/\V c y yv) (uV:lo=none->Cv=none)
 (hhi:∀ y,hi=some y->∃ yv,hiv=some yv/\V c y yv) (vS:hi=none->hiv=none)
 (h:k8 c.H len sz x lo hi=some r):∃ v,(Instr.sliceAt t xv Cv hiv none).run P c.w= .ok v c.w/\V c r v:=by
 unfold k8 at h;split at h
 case h_2=>simp at h
 rename_i hh eh;split at h
 case h_2=>simp at h
 rename_i l el;have Lp:=kW eh;have Q5:=kW el;have hb:=fW (P:=P) (Tr:=false) (len:=len) (cap:=len) hlo uV hhi vS (za7 _) eh el c.w;have hrun:∀ a,(Instr.sliceAt t (.pointer (some a)) Cv hiv none).run P c.w= .ok (.slice (some (if len=l then a else a.add (l*sz))) (hh - l) (len - l)) c.w:=by
  intro a;simp only [Instr.sliceAt,Sem.run_bind,aA ht,Result.andThen_ok,Instr.sureAddr,Sem.run_pure,hb,bZ hsz]
 have hmul:l*sz+(hh - l)*sz<=len*sz:=by
  rw [<-zaC];exact zag sz (by omega)
 split at h
 ·rename_i cs;obtain ⟨a,rfl⟩:∃ a,xv= .pointer (some a):=by cases hx;exact ⟨_,rfl⟩
  refine ⟨_,hrun a,?_⟩;split at h
  ·rename_i heq;injection h with h;subst h;subst heq
   simp only [zbl];exact sU _ _
  ·rename_i hne;have iT:¬ len=l:=by omega
   rw [if_neg iT];split at h
   case isFalse=>simp at h
   rename_i hle;injection h with h;subst h
   refine GV (DQ hx (by omega)) sz (hh - l) _ (by simp;omega) (by omega)
 ·rename_i id ext e' o
  cases hx with
  | aJ _ _ _ _ _ hp=>
   obtain ⟨hlt,a,rfl,hsp,hp⟩:=hp;refine ⟨_,hrun a,?_⟩;split at h
   ·rename_i heq;injection h with h;subst h;subst heq
    simp only [zbl];exact sU _ _
   ·rename_i hne;have iT:¬ len=l:=by omega
    rw [if_neg iT];split at h
    case h_2=>simp at h
    rename_i SZ es hl;obtain ⟨nl,hid⟩:=bB hl;split at h
    case isFalse=>simp at h
    injection h with h;subst h
    rw [jU _ _ hsp];refine .arr _ _ _ _ _ _ _ ⟨hlt,_,⟨_,rfl,by omega⟩,rfl,fun nl' sz' es' di=>⟨(hp _ _ _ di).1,fun he'=>?_⟩⟩;rw [(hp _ _ _ di).2 he',Nat.add_assoc]
 ·simp at h
theorem TU {t:TypeId} {ks:List CK} (hk:fy P 12 t=some ks) (hg:P.eqGuardType P.depth t=false) {d:TypeDesc} (hu:P.underlying t=some d)
 (hd:(match d with | .struct _ | .array _ _=>true | _=>false)=true) {neg:Bool} {x y r:AV} {xv yv:Value}
 (hx:V c x xv) (hy:V c y yv) (h:Cz neg ks x y=some r) (X Y:Operand):
 ∃ v,(eqGuard (if neg then .neq else .eql) t X Y xv yv >>= fun _=>binOp (if neg then .neq else .eql) t xv yv).run P c.w= .ok v c.w/\V c r v:=by
 unfold Cz at h;split at h
 ·rename_i cs ds
  cases hx with
  | agg _ xs hxs AY=>
   cases hy with
   | agg _ ys hys UJ=>
    split at h
    case h_2=>simp at h
    rename_i b hb;injection h with h;subst h
    obtain ⟨Uw,zm⟩:=n7 hb;obtain ⟨px,py,r1,r2,r3⟩:=Xo (c:=c) 12 t ks hk 10000 (by omega) cs ds xs ys 0 b c.w ⟨hxs,AY⟩ ⟨hys,UJ⟩ (by
     rw [zaW,zaW,zah (by omega),zah (by omega)];exact hb)
    have hag:nw P t=some true:=by
     unfold nw;rw [hu];cases d<;>simp at hd ⊢
    have hsz:∃ n,cW P t=some n/\n=ks.length:=by
     unfold fy at hk;rw [hu] at hk
     cases d<;>simp at hd
     ·rename_i n e;simp only at hk;split at hk
      case h_2=>simp at hk
      rename_i k0 sz Fp vU;split at hk
      case isFalse=>simp at hk
      rename_i hc;injection hk with hk
      refine ⟨_,hc.2,?_⟩;rw [<-hk];simp [hc.1]
     ·rename_i fs;simp only at hk;split at hk
      ·simp at hk
      ·split at hk
       case h_2=>simp at hk
       split at hk
       case isFalse=>simp at hk
       rename_i hc;injection hk with hk
       exact ⟨_,hc,by rw [hk]⟩
    obtain ⟨n,hn,qC⟩:=hsz;have e1:px= .agg xs:=by
     have:=lM (P:=P) hu hd hn (vs:=xs) (o:=0) c.w;rw [this] at r1;injection r1 with r1
     rw [<-r1];congr 1;rw [zaD,qC,<-Uw,<-hxs];simp
    have e2:py= .agg ys:=by
     have:=lM (P:=P) hu hd hn (vs:=ys) (o:=0) c.w;rw [this] at r2;injection r2 with r2
     rw [<-r2];congr 1;rw [zaD,qC,<-zm,<-hys];simp
    subst e1;subst e2
    cases neg
    ·refine ⟨_,?_,V.bool _⟩;simp only [za9,if_false,Sem.run_bind,run_eqGuard_agg c.w _ t X Y xs ys hg,Result.andThen_ok,run_eql_struct,r3];simp
    ·refine ⟨_,?_,V.bool _⟩;simp only [if_true,Sem.run_bind,run_eqGuard_agg c.w _ t X Y xs ys hg,Result.andThen_ok,run_neq_struct,r3];simp
 ·simp at h
theorem aaY {t:TypeId} (hu:P.underlying t=some .bool) {neg:Bool} {x y r:AV} {xv yv:Value}
 (hx:V c x xv) (hy:V c y yv) (h:Hp neg x y=some r) (X Y:Operand):
 ∃ v,(eqGuard (if neg then .neq else .eql) t X Y xv yv >>= fun _=>binOp (if neg then .neq else .eql) t xv yv).run P c.w= .ok v c.w/\V c r v:=by
 unfold Hp at h;split at h
 ·rename_i a b
  cases hx;cases hy;injection h with h;subst h
  have hq:=run_equalIn_bool' (P:=P) c.w 9999 t a b hu;refine ⟨_,?_,V.bool _⟩
  cases neg
  ·have hg:(eqGuard .eql t X Y (.bool a) (.bool b)).run P c.w= .ok () c.w:=rfl;simp only [za9,if_false,Sem.run_bind,hg,Result.andThen_ok,binOp];simp [Op.equal,Op.maxDepth,hq]
  ·have hg:(eqGuard .neq t X Y (.bool a) (.bool b)).run P c.w= .ok () c.w:=rfl;simp only [if_true,Sem.run_bind,hg,Result.andThen_ok,binOp];simp [Op.equal,Op.maxDepth,hq]
 ·simp at h
theorem I3 {x:AV} {xv:Value} {b:Bool} (hx:V c x xv) (h:isNil c.H x=some b):
 ∃ a l k,xv= .slice a l k/\a.isNone=b:=by
 unfold isNil at h;split at h
 ·cases hx;injection h with h;subst h;exact ⟨_,_,_,rfl,rfl⟩
 ·split at h
  ·simp at h
  ·cases hx;injection h with h;subst h;exact ⟨_,_,_,rfl,rfl⟩
 ·rename_i id ext off len
  cases hx with
  | own _ _ _ _ _ how=>
   split at h
   case h_2=>simp at h
   rename_i sz es hl;obtain ⟨nl,hid⟩:=bB hl;split at h
   case isFalse=>simp at h
   rename_i eU;injection h with h
   obtain ⟨_,_,how⟩:=how;obtain ⟨_,how⟩:=how _ _ _ hid;obtain ⟨_,how⟩:=how eU;rcases how with ⟨h1,h2,h3⟩ | ⟨h1,cap,h3,_⟩
   ·subst h3;subst h2;simp [cy,hid,h1] at h;exact ⟨_,_,_,rfl,by simp [<-h]⟩
   ·subst h3;refine ⟨_,_,_,rfl,?_⟩;rw [<-h];simp only [Option.isNone_some,cy,hid]
    cases hb:(decide (nl= .nil)&&es.isEmpty) with
    | false=>rfl
    | true=>exfalso;simp at hb;exact h1 hb
 ·injection h with h;subst h
  cases hx with
  | arr _ _ _ _ _ _ _ ho=>
   obtain ⟨_,a,⟨cap,rfl,_⟩,_⟩:=ho;exact ⟨_,_,_,rfl,rfl⟩
 ·simp at h
theorem aaZ {t e:TypeId} (hu:P.underlying t=some (.slice e)) {neg:Bool} {x y r:AV} {xv yv:Value}
 (hx:V c x xv) (hy:V c y yv) (h:AS c.H neg x y=some r) (X Y:Operand):
 ∃ v,(eqGuard (if neg then .neq else .eql) t X Y xv yv >>= fun _=>binOp (if neg then .neq else .eql) t xv yv).run P c.w= .ok v c.w/\V c r v:=by
 have key:∀ (a a':Option Addr) (l k l' k':Nat) (b:Bool),((a.isNone=b/\a'=none)\/(a'.isNone=b/\a=none))->∃ v,(eqGuard (if neg then .neq else .eql) t X Y (.slice a l k) (.slice a' l' k') >>= fun _=>binOp (if neg then .neq else .eql) t (.slice a l k) (.slice a' l' k')).run P c.w= .ok v c.w/\V c (.bool (b !=neg)) v:=by
  intro a a' l k l' k' b hb;have hq:∀ d,(Op.equalIn (d+1) t (.slice a l k) (.slice a' l' k')).run P c.w= .ok b c.w:=by
   intro d;rcases hb with ⟨h1,rfl⟩ | ⟨h1,rfl⟩
   ·cases a<;>simp at h1<;>subst h1<;>simp [Op.equalIn,aA hu]
   ·cases a'<;>simp at h1<;>subst h1<;>simp [Op.equalIn,aA hu]
  replace hq:=hq 9999;refine ⟨_,?_,V.bool _⟩
  cases neg
  ·have hg:(eqGuard .eql t X Y (.slice a l k) (.slice a' l' k')).run P c.w= .ok () c.w:=rfl;simp only [za9,if_false,Sem.run_bind,hg,Result.andThen_ok,binOp];simp [Op.equal,Op.maxDepth,hq]
  ·have hg:(eqGuard .neq t X Y (.slice a l k) (.slice a' l' k')).run P c.w= .ok () c.w:=rfl;simp only [if_true,Sem.run_bind,hg,Result.andThen_ok,binOp];simp [Op.equal,Op.maxDepth,hq]
 unfold AS at h;split at h
 ·split at h
  case h_2=>simp at h
  rename_i b hb;injection h with h;subst h
  obtain ⟨a,l,k,rfl,ha⟩:=I3 hx hb
  cases hy;exact key _ _ _ _ _ _ _ (.inl ⟨ha,rfl⟩)
 ·split at h
  case h_2=>simp at h
  rename_i b hb;injection h with h;subst h
  obtain ⟨a,l,k,rfl,ha⟩:=I3 hy hb
  cases hx;exact key _ _ _ _ _ _ _ (.inr ⟨ha,rfl⟩)
 ·simp at h
theorem R6 {x:AV} {xv:Value} {n:Int} (hx:V c x xv) (h:lenOf x=some n):∃ a l k,xv= .slice a l k/\n=l:=by
 unfold lenOf at h;split at h
 ·cases hx<;>(injection h with h;exact ⟨_,_,_,rfl,h.symm⟩)
 ·cases hx with
  | own _ _ _ _ _ how=>obtain ⟨_,⟨a,cap,rfl⟩,_⟩:=how;injection h with h;exact ⟨_,_,_,rfl,h.symm⟩
 ·cases hx with
  | arr _ _ _ _ _ _ _ ha=>obtain ⟨_,a,⟨cap,rfl,_⟩,_⟩:=ha;injection h with h;exact ⟨_,_,_,rfl,h.symm⟩
 ·cases hx;injection h with h;exact ⟨_,_,_,rfl,h.symm⟩
 ·simp at h
theorem Ed {x:AV} {xv:Value} {b:Bool} (hx:V c x xv) (h:p6 x=some b):∃ a,xv= .pointer a/\a.isNone=b:=by
 unfold p6 at h;split at h
 ·cases hx;injection h with h;subst h;exact ⟨_,rfl,rfl⟩
 ·cases hx;injection h with h;subst h;exact ⟨_,rfl,rfl⟩
 ·cases hx with
  | aJ _ _ _ _ _ hp=>obtain ⟨_,_,rfl,_⟩:=hp;injection h with h;subst h;exact ⟨_,rfl,rfl⟩
 ·simp at h
theorem aa0 {t e:TypeId} (hu:P.underlying t=some (.pointer e)) {neg:Bool} {x y r:AV} {xv yv:Value}
 (hx:V c x xv) (hy:V c y yv) (h:Hq neg x y=some r) (X Y:Operand):
 ∃ v,(eqGuard (if neg then .neq else .eql) t X Y xv yv >>= fun _=>binOp (if neg then .neq else .eql) t xv yv).run P c.w= .ok v c.w/\V c r v:=by
 have key:∀ (a a':Option Addr) (b:Bool),((a.isNone=b/\a'=none)\/(a'.isNone=b/\a=none))->∃ v,(eqGuard (if neg then .neq else .eql) t X Y (.pointer a) (.pointer a') >>= fun _=>binOp (if neg then .neq else .eql) t (.pointer a) (.pointer a')).run P c.w= .ok v c.w/\V c (.bool (b !=neg)) v:=by
  intro a a' b hb;have hq:∀ d,(Op.equalIn (d+1) t (.pointer a) (.pointer a')).run P c.w= .ok b c.w:=by
   intro d;rcases hb with ⟨h1,rfl⟩ | ⟨h1,rfl⟩
   ·cases a<;>simp at h1<;>subst h1<;>simp [Op.equalIn,aA hu]
   ·cases a'<;>simp at h1<;>subst h1<;>simp [Op.equalIn,aA hu]
  replace hq:=hq 9999;refine ⟨_,?_,V.bool _⟩
  cases neg
  ·have hg:(eqGuard .eql t X Y (.pointer a) (.pointer a')).run P c.w= .ok () c.w:=rfl;simp only [za9,if_false,Sem.run_bind,hg,Result.andThen_ok,binOp];simp [Op.equal,Op.maxDepth,hq]
  ·have hg:(eqGuard .neq t X Y (.pointer a) (.pointer a')).run P c.w= .ok () c.w:=rfl;simp only [if_true,Sem.run_bind,hg,Result.andThen_ok,binOp];simp [Op.equal,Op.maxDepth,hq]
 unfold Hq at h;split at h
 ·split at h
  case h_2=>simp at h
  rename_i b hb;injection h with h;subst h
  obtain ⟨a,rfl,ha⟩:=Ed hx hb
  cases hy;exact key _ _ _ (.inl ⟨ha,rfl⟩)
 ·split at h
  case h_2=>simp at h
  rename_i b hb;injection h with h;subst h
  obtain ⟨a,rfl,ha⟩:=Ed hy hb
  cases hx;exact key _ _ _ (.inr ⟨ha,rfl⟩)
 ·simp at h
theorem WH {x r:AV} {xv:Value} (hx:V c x xv) (h:pJ x=some r):r=x/\((∃ a,xv= .pointer (some a))\/∃ f fs cap,xv= .func (.func f) fs cap):=by
 unfold pJ at h;split at h
 ·injection h with h;cases hx;exact ⟨h.symm,.inl ⟨_,rfl⟩⟩
 ·injection h with h
  cases hx with
  | aJ _ _ _ _ _ hp=>obtain ⟨_,_,rfl,_⟩:=hp;exact ⟨h.symm,.inl ⟨_,rfl⟩⟩
 ·injection h with h;cases hx;exact ⟨h.symm,.inr ⟨_,_,_,rfl⟩⟩
 ·injection h with h;cases hx;exact ⟨h.symm,.inr ⟨_,_,_,rfl⟩⟩
 ·simp at h
end
end Go.Am
end
section
namespace Go.Am
section
variable {P:Program} {c:Ctx}
theorem tf {x:AV} {xv:Value} (hx:V c x xv) (h:x.one=true):xv.cells=#[xv]/\xv.oneCell'=true:=by
 cases hx with
 | own _ _ _ _ _ how=>obtain ⟨_,⟨_,_,rfl⟩,_⟩:=how;exact ⟨rfl,rfl⟩
 | aJ _ _ _ _ _ how=>obtain ⟨_,_,rfl,_⟩:=how;exact ⟨rfl,rfl⟩
 | arr _ _ _ _ _ _ _ how=>obtain ⟨_,_,⟨_,rfl,_⟩,_⟩:=how;exact ⟨rfl,rfl⟩
 | any | agg | aY=>simp [AV.one] at h
 | _=>exact ⟨rfl,rfl⟩
theorem qf:∀ {l:List AV},aW l=true->∀ x∈l,x.one=true
 | [],_,x,hx=>by simp at hx
 | y::l,h,x,hx=>by
  simp only [aW,za0] at h;rcases zad.1 hx with rfl | hx
  ·exact h.1
  ·exact qf h.2 x hx
theorem u9 {x:AV} {xv:Value} (hx:V c x xv) (h:aW x.cells=true):PV c x.cells xv.cells/\∀ u∈xv.cells.toList,u.oneCell'=true:=by
 by_cases hag:∃ cs,x= .agg cs
 ·obtain ⟨cs,rfl⟩:=hag
  cases hx with
  | agg _ vs hs hv=>
   refine ⟨⟨hs,hv⟩,fun u hu=>?_⟩;simp only [Value.cells] at hu;obtain ⟨i,hi,rfl⟩:=zaE hu;have hi':i < cs.length:=by simp at hi;omega
   exact (tf (hv i hi' (by simpa using hi)) (qf h _ (zax hi'))).2
 ·have hc:x.cells=[x]:=by
   cases x<;>first | rfl | (exfalso;exact hag ⟨_,rfl⟩)
  rw [hc] at h ⊢;have h1:x.one=true:=by simpa [aW] using h
  obtain ⟨e,o⟩:=tf hx h1;rw [e];refine ⟨⟨rfl,fun i hi hj=>?_⟩,?_⟩
  ·have:i=0:=by simp at hi;omega
   subst this;exact hx
  ·simp [o]
theorem b9:∀ (xs cs:List AV) (o:Nat),(putAt cs o xs).length=cs.length
 | [],_,_=>rfl
 | x::xs,cs,o=>by simp [putAt,b9 xs]
theorem lN:∀ (xs cs:List AV) (o i:Nat) (hi:i < (putAt cs o xs).length),o+xs.length<=cs.length->
 (putAt cs o xs)[i]=if h:o<=i/\i < o+xs.length then xs[i - o]'(by omega) else cs[i]'(by rw [b9] at hi;exact hi)
 | [],cs,o,i,hi,_=>by
  rw [dif_neg (by simp)];simp [putAt]
 | x::xs,cs,o,i,hi,h=>by
  simp only [putAt];rw [lN xs (cs.set o x) (o+1) i (by simpa [putAt] using hi) (by simp at h ⊢;omega)];by_cases h1:o+1<=i/\i < o+1+xs.length
  ·rw [dif_pos h1,dif_pos (by simp;omega)];have:i - o=(i - (o+1))+1:=by omega
   simp [this]
  ·rw [dif_neg h1];by_cases h2:i=o
   ·subst h2;rw [dif_pos (by simp)];simp
   ·rw [dif_neg (by simp;omega)];rw [zbw (by omega)]
theorem yJ (cells:List Value):∀ (k:Nat) (acc:Array Value) (off:Nat),((cells.zipIdx k).foldl (fun cs (x:Value×Nat)=>cs.setIfInBounds (off+x.2) x.1) acc).size=acc.size:=by
 induction cells with
 | nil=>intros;rfl
 | cons x xs ih=>intro k acc off;simp [List.zipIdx_cons,ih]
theorem su:∀ (xs:List AV) (vs:List Value) (k:Nat) (cs:List AV) (acc:Array Value) (off:Nat),PV c cs acc->
 vs.length=xs.length->(∀ i (hi:i < xs.length) (hj:i < vs.length),V c xs[i] vs[i])->
 PV c (putAt cs (off+k) xs) ((vs.zipIdx k).foldl (fun cs (x:Value×Nat)=>cs.setIfInBounds (off+x.2) x.1) acc)
 | [],[],k,cs,acc,off,h,_,_=>h
 | x::xs,v::vs,k,cs,acc,off,h,hl,hv=>by
  simp only [putAt,List.zipIdx_cons,List.foldl_cons];refine su xs vs (k+1) (cs.set (off+k) x) _ off ⟨by simp [h.1],fun i hi hj=>?_⟩ (by simpa using hl) (fun i hi hj=>?_)
  ·simp at hi hj;rw [zbY,Array.getElem_setIfInBounds]
   ·split
    ·exact hv 0 (by simp) (by simp)
    ·exact h.2 i hi hj
  ·exact hv (i+1) (by simp;omega) (by simp;omega)
 | [],_::_,_,_,_,_,_,hl,_=>by simp at hl
 | _::_,[],_,_,_,_,_,hl,_=>by simp at hl
theorem wS (place:Nat->Option (Nat×Nat)):∀ (ps:List (Nat×Nat×AV)) (vs:List (Nat×Value)) (cs:List AV) (acc:Array Value) (r:List AV),
 PV c cs acc->vs.length=ps.length->(∀ i (hi:i < ps.length) (hj:i < vs.length),place vs[i].1=some (ps[i].1,ps[i].2.1)/\V c ps[i].2.2 vs[i].2)->
 nx cs ps=some r->∃ acc',Instr.fill place acc vs=some acc'/\PV c r acc'
 | [],[],cs,acc,r,h,_,_,hf=>by simp [nx] at hf;subst hf;exact ⟨acc,rfl,h⟩
 | (o,n,x)::ps,(i,v)::vs,cs,acc,r,h,hl,hv,hf=>by
  simp only [nx] at hf;split at hf
  case isFalse=>simp at hf
  rename_i hc;obtain ⟨h1,h2,h3⟩:=hc;obtain ⟨hp,hx⟩:=hv 0 (by simp) (by simp);simp only [zaF] at hp hx;obtain ⟨uJ,_⟩:=u9 hx h3;have hsz:v.cells.size=n:=by rw [uJ.1];exact h1
  obtain ⟨acc',e1,e2⟩:=wS place ps vs (putAt cs o x.cells) (v.cells.zipIdx.foldl (fun cs (x:Value×Nat)=>cs.setIfInBounds (o+x.2) x.1) acc) r
   (by
    have:=su x.cells v.cells.toList 0 cs acc o h (by simpa using uJ.1) (fun i hi hj=>by simpa using uJ.2 i hi (by simpa using hj));rw [<-Array.foldl_toList,Array.toList_zipIdx];exact this) (by simpa using hl) (fun i hi hj=>by have:=hv (i+1) (by simp;omega) (by simp;omega);simpa using this) hf
  refine ⟨acc',?_,e2⟩;simp only [Instr.fill,hp];rw [if_neg]
  ·exact e1
  ·have:acc.size=cs.length:=h.1;simp only [zat,decide_eq_true_eq,not_or];refine ⟨by simp [hsz],by omega⟩
 | [],_::_,_,_,_,_,hl,_,_=>by simp at hl
 | _::_,[],_,_,_,_,hl,_,_=>by simp at hl
theorem Tz {G:Nat->List AV} {t:List AV} {a:Act} (ht:TR c t a.tmps) (hg:gU c G) (x:Option Operand):
 (∀ y,(x.map cx).map (·.ev G t)=some y->∃ yv,x.map a.eval=some yv/\V c y yv)/\((x.map cx).map (·.ev G t)=none->x.map a.eval=none):=by
 cases x with
 | none=>exact ⟨by simp,by simp⟩
 | some x=>
  refine ⟨fun y hy=>?_,by simp⟩;simp at hy;subst hy;exact ⟨_,rfl,vL ht hg x⟩
theorem sN {G:Nat->List AV} {t:List AV} {a:Act} (ht:TR c t a.tmps) (hg:gU c G) (l:List Operand):
 ∀ i (hi:i < ((l.map cx).map (·.ev G t)).length) (hj:i < (l.map a.eval).length),V c ((l.map cx).map (·.ev G t))[i] (l.map a.eval)[i]:=by
 intro i hi hj;simp only [zay];exact vL ht hg _
theorem MB {f:AV->AV->Option AV} {g:Value->Value->Sem Value}
 (hfg:∀ x y r xv yv,V c x xv->V c y yv->f x y=some r->∃ v,(g xv yv).run P c.w= .ok v c.w/\V c r v):
 ∀ (l:List AV) (vs:List Value) (x r:AV) (xv:Value),V c x xv->vs.length=l.length->(∀ i (hi:i < l.length) (hj:i < vs.length),V c l[i] vs[i])->
 jA f x l=some r->∃ v,(vs.foldlM g xv).run P c.w= .ok v c.w/\V c r v
 | [],[],x,r,xv,hx,_,_,h=>by simp [jA] at h;subst h;exact ⟨xv,rfl,hx⟩
 | y::l,yv::vs,x,r,xv,hx,hl,hv,h=>by
  simp only [jA] at h;split at h
  case h_2=>simp at h
  rename_i z hz;obtain ⟨v,e,hV⟩:=hfg x y z xv yv hx (hv 0 (by simp) (by simp)) hz;obtain ⟨u,e2,hU⟩:=MB hfg l vs z r v hV (by simpa using hl) (fun i hi hj=>hv (i+1) (by simp;omega) (by simp;omega)) h;refine ⟨u,?_,hU⟩;simp only [List.foldlM_cons,Sem.run_bind,e,Result.andThen_ok];exact e2
 | [],_::_,_,_,_,_,hl,_,_=>by simp at hl
 | _::_,[],_,_,_,_,hl,_,_=>by simp at hl
theorem V4 (x y r:AV) (xv yv:Value) (hx:V c x xv) (hy:V c y yv) (h:min2 x y=some r):∃ v,(Builtin.min2 xv yv).run P c.w= .ok v c.w/\V c r v:=by
 unfold min2 at h;split at h
 ·cases hx;cases hy;injection h with h;subst h;exact ⟨_,rfl,V.int _ _⟩
 ·simp at h
theorem V5 (x y r:AV) (xv yv:Value) (hx:V c x xv) (hy:V c y yv) (h:max2 x y=some r):∃ v,(Builtin.max2 xv yv).run P c.w= .ok v c.w/\V c r v:=by
 unfold max2 at h;split at h
 ·cases hx;cases hy;injection h with h;subst h;exact ⟨_,rfl,V.int _ _⟩
 ·simp at h
theorem zJ {f:AV->AV->Option AV} {g:Value->Value->Sem Value}
 (hfg:∀ x y r xv yv,V c x xv->V c y yv->f x y=some r->∃ v,(g xv yv).run P c.w= .ok v c.w/\V c r v)
 {l:List AV} {vs:List Value} {r:AV} (hl:vs.length=l.length) (hv:∀ i (hi:i < l.length) (hj:i < vs.length),V c l[i] vs[i])
 (h:(match l with | x::q=>jA f x q | []=>none)=some r):∃ x q v,vs=x::q/\(q.foldlM g x).run P c.w= .ok v c.w/\V c r v:=by
 cases l with
 | nil=>simp at h
 | cons x l=>
  cases vs with
  | nil=>simp at hl
  | cons xv vs=>
   obtain ⟨v,e,hV⟩:=MB hfg l vs x r xv (hv 0 (by simp) (by simp)) (by simpa using hl) (fun i hi hj=>hv (i+1) (by simp;omega) (by simp;omega)) h;exact ⟨xv,vs,v,rfl,e,hV⟩
end
end Go.Am
end
section
namespace Go.Am
section
variable {P:Program} {c:Ctx}
def Reads (P:Program) (c:Ctx) (a:Act) (o:Oper) (v:AV):Prop:=∃ v',(execOp a.eval o).run P c.w= .ok (.value v') c.w/\V c v v'
theorem cq {a:Act} {o:Oper} {v:AV} {s:Sem Value} (he:execOp a.eval o=(do pure (.value (<- s)))) (h:∃ v',s.run P c.w= .ok v' c.w/\V c v v'):Reads P c a o v:=by
 obtain ⟨v',h1,h2⟩:=h;exact ⟨v',by rw [he];simp [h1],h2⟩
theorem ep {t:TypeId} {z:List AV} (h:zeroOf P t=some z):∃ i zv,P.info? t=some i/\i.zero=some zv/\z=zv.cells.toList.map simple:=by
 unfold zeroOf at h;split at h
 ·rename_i i hi;split at h
  ·rename_i zv hz;injection h with h
   exact ⟨i,zv,hi,hz,h.symm⟩
  ·simp at h
 ·simp at h
theorem ff {t:TypeId} {i:TypeInfo} {zv:Value} (hi:P.info? t=some i) (hz:i.zero=some zv) (w:World):(zeroValue t).run P w= .ok zv w:=by
 simp [zeroValue,typeInfo,hi,hz]
theorem mH (zv:Value):PV c (zv.cells.toList.map simple) zv.cells:=by
 refine ⟨by simp,fun i hi hj=>?_⟩;simp only [zay,zbC];exact r4 c _
theorem m0:∀ (l:List Field) (w:World),(l.all fun f=>(cW P f.type).isSome)=true->
 ((l.mapM (fun f=>(do pure (f.offset,<-sizeOf f.type):Sem (Nat×Nat)))):Sem (List (Nat×Nat))).run P w= .ok (l.map fun f=>(f.offset,(cW P f.type).getD 0)) w
 | [],w,_=>by simp
 | f::l,w,h=>by
  simp only [zbI,za0,Option.isSome_iff_exists] at h;obtain ⟨⟨n,hn⟩,h⟩:=h;have ih:=m0 l w h;rw [List.mapM_cons];simp only [Sem.run_bind,bZ hn,Result.andThen_ok,Sem.run_pure];rw [ih];simp [hn]
theorem od {fs:Array Field}:∀ {parts:List (Nat×Operand)} {l:List (Nat×Nat×RX)},compFields P fs parts=some l->
 l.length=parts.length/\∀ i (hi:i < l.length) (hj:i < parts.length),∃ f,fs[parts[i].1]?=some f/\l[i].1=f.offset/\cW P f.type=some l[i].2.1/\l[i].2.2=cx parts[i].2
 | [],l,h=>by simp [compFields] at h;subst h;simp
 | (j,x)::r,l,h=>by
  simp only [compFields] at h;split at h
  case h_2=>simp at h
  rename_i f l' hf hl';split at h
  case h_2=>simp at h
  rename_i n hn;injection h with h;subst h
  obtain ⟨e1,e2⟩:=od hl';refine ⟨by simp [e1],fun i hi hj=>?_⟩
  cases i with
  | zero=>exact ⟨f,hf,rfl,hn,rfl⟩
  | succ i=>simpa using e2 i (by simpa using hi) (by simpa using hj)
theorem Ck {t:TypeId} {fs:Array Field} {z:List AV} (hu:P.underlying t=some (.struct fs)) (hz:zeroOf P t=some z)
 (hall:(fs.toList.all fun f=>(cW P f.type).isSome)=true) {parts:List (Nat×Operand)} {l:List (Nat×Nat×RX)} (hc:compFields P fs parts=some l)
 {G:Nat->List AV} {tm:List AV} {a:Act} (ht:TR c tm a.tmps) (hg:gU c G) {cs:List AV}
 (hf:nx z (l.map fun (x:Nat×Nat×RX)=>(x.1,x.2.1,x.2.2.ev G tm))=some cs):
 ∃ v,(Instr.build t (parts.map fun (x:Nat×Operand)=>(x.1,a.eval x.2)).toArray).run P c.w= .ok v c.w/\V c (.agg cs) v:=by
 obtain ⟨i,zv,hi,Cu,rfl⟩:=ep hz;obtain ⟨e1,e2⟩:=od hc;have dg:((fs.mapM (fun f=>(do pure (f.offset,<-sizeOf f.type):Sem (Nat×Nat)))):Sem (Array (Nat×Nat))).run P c.w= .ok (fs.toList.map fun f=>(f.offset,(cW P f.type).getD 0)).toArray c.w:=by
  rw [Array.mapM_eq_mapM_toList];simp only [Sem.run_map];rw [m0 fs.toList c.w hall];simp
 obtain ⟨acc,h1,h2⟩:=wS (c:=c) (fun j=>((fs.toList.map fun f=>(f.offset,(cW P f.type).getD 0)).toArray)[j]?)
  (l.map fun (x:Nat×Nat×RX)=>(x.1,x.2.1,x.2.2.ev G tm)) (parts.map fun (x:Nat×Operand)=>(x.1,a.eval x.2)) _ zv.cells cs (mH zv) (by simp [e1]) (by
   intro i hi hj;obtain ⟨f,f1,f2,f3,f4⟩:=e2 i (by simpa using hi) (by simpa using hj);simp only [zay];refine ⟨?_,by rw [f4];exact vL ht hg _⟩;simp only [zbz,zav,Array.getElem?_toList];rw [f1];simp [f2,f3]) hf
 refine ⟨.agg acc,?_,.agg _ _ h2.1 h2.2⟩;unfold Instr.build;simp only [Sem.run_bind,ff hi Cu,Result.andThen_ok,aA hu];rw [dg];simp only [Result.andThen_ok];rw [h1];rfl
theorem EV {t e:TypeId} {n sz:Nat} {z:List AV} (hu:P.underlying t=some (.array n e)) (hz:zeroOf P t=some z) (hsz:cW P e=some sz)
 {parts:List (Nat×Operand)} {G:Nat->List AV} {tm:List AV} {a:Act} (ht:TR c tm a.tmps) (hg:gU c G) {cs:List AV}
 (hf:nx z ((parts.map fun (x:Nat×Operand)=>(x.1*sz,sz,cx x.2)).map fun (x:Nat×Nat×RX)=>(x.1,x.2.1,x.2.2.ev G tm))=some cs):
 ∃ v,(Instr.build t (parts.map fun (x:Nat×Operand)=>(x.1,a.eval x.2)).toArray).run P c.w= .ok v c.w/\V c (.agg cs) v:=by
 obtain ⟨i,zv,hi,Cu,rfl⟩:=ep hz;obtain ⟨acc,h1,h2⟩:=wS (c:=c) (fun i=>some (i*sz,sz)) _ (parts.map fun (x:Nat×Operand)=>(x.1,a.eval x.2)) _ zv.cells cs (mH zv) (by simp) (by
  intro i hi hj;constructor
  ·simp
  ·simp only [zay];exact vL ht hg _) hf
 refine ⟨.agg acc,?_,.agg _ _ h2.1 h2.2⟩;unfold Instr.build;simp only [Sem.run_bind,ff hi Cu,Result.andThen_ok,aA hu,bZ hsz];rw [h1];rfl
theorem DF (hr:HR c) {G:Nat->List AV} {t:List AV} {a:Act} (ht:TR c t a.tmps) (hg:gU c G) (o:Oper) {v:AV}
 (h:aN G t (cj P o)=some v\/aO G t c.H (cj P o)=some v):Reads P c a o v:=by
 have E:=fun x=>vL ht hg x
 unfold cj at h
 cases hop:o.op with
 | move x=>simp only [hop,aN,aO,reduceCtorEq,or_false,za2] at h;subst h;exact ⟨_,by simp only [execOp,hop];rfl,E x⟩
 | assign x=>simp only [hop,aN,aO,reduceCtorEq,or_false,za2] at h;subst h;exact ⟨_,by simp only [execOp,hop];rfl,E x⟩
 | pick q x y=>
  simp only [hop,aN,aO,reduceCtorEq,or_false] at h;have hq:=E q;split at h
  ·rename_i hb;rw [hb] at hq;injection h with h;subst h
   generalize hqv:a.eval q=qv at hq;cases hq;exact ⟨_,by simp [execOp,hop,hqv,asBool],E x⟩
  ·rename_i hb;rw [hb] at hq;injection h with h;subst h
   generalize hqv:a.eval q=qv at hq;cases hq;exact ⟨_,by simp [execOp,hop,hqv,asBool],E y⟩
  ·simp at h
 | build ty parts=>
  simp only [hop] at h;split at h
  ·rename_i z fs hz hu;split at h
   ·rename_i hall;split at h
    ·rename_i l hc;simp only [aN,aO,reduceCtorEq,or_false] at h;split at h
     ·rename_i cs hcs;injection h with h;subst h
      refine cq (s:=Instr.build ty (parts.map fun (i,x)=>(i,a.eval x))) (by simp only [execOp,hop]) ?_;obtain ⟨v,e,hV⟩:=Ck hu hz hall hc ht hg hcs;refine ⟨v,?_,hV⟩;rw [<-e];congr 2;apply zbp;simp
     ·simp at h
    ·simp [aN,aO] at h
   ·simp [aN,aO] at h
  ·rename_i z n e hz hu;split at h
   ·rename_i sz hsz;simp only [aN,aO,reduceCtorEq,or_false] at h;split at h
    ·rename_i cs hcs;injection h with h;subst h
     refine cq (s:=Instr.build ty (parts.map fun (i,x)=>(i,a.eval x))) (by simp only [execOp,hop]) ?_;obtain ⟨v,e,hV⟩:=EV hu hz hsz ht hg hcs;refine ⟨v,?_,hV⟩;rw [<-e];congr 2;apply zbp;simp
    ·simp at h
   ·simp [aN,aO] at h
  ·simp [aN,aO] at h
 | load ty x=>
  simp only [hop] at h;split at h
  ·rename_i n ag hn ha;simp only [aN,aO,reduceCtorEq,false_or] at h;exact cq (s:=Instr.loadAt ty (a.eval x)) (by simp only [execOp,hop]) (MT hr hn ha (E x) h)
  ·simp [aN,aO] at h
 | binOp op ty x y yt=>
  simp only [hop] at h;have adt:∀ op',op=op'->∀ r,bin op' ((cx x).ev G t) ((cx y).ev G t)=some r->Reads P c a o r:=by
   rintro _ rfl r hb;refine cq (s:=(do eqGuard op ty x y (a.eval x) (a.eval y);binOp op ty (a.eval x) (a.eval y))) (by simp only [execOp,hop]) ?_;exact L3 (E x) (E y) hb ty x y c.w
  have hcmp:∀ (neg:Bool),op=(if neg then .neq else .eql)->∀ r,(aN G t (fc P neg ty (cx x) (cx y))=some r\/aO G t c.H (fc P neg ty (cx x) (cx y))=some r)->Reads P c a o r:=by
   intro neg hneg r hb;refine cq (s:=(do eqGuard op ty x y (a.eval x) (a.eval y);binOp op ty (a.eval x) (a.eval y))) (by simp only [execOp,hop]) ?_;unfold fc at hb;split at hb
   ·simp only [aN,aO,reduceCtorEq,or_false] at hb;rw [<-hneg] at hb;exact L3 (E x) (E y) hb ty x y c.w
   ·simp only [aN,aO,reduceCtorEq,or_false] at hb;rw [<-hneg] at hb;exact L3 (E x) (E y) hb ty x y c.w
   ·rename_i hu;simp only [aN,aO,reduceCtorEq,or_false] at hb;subst hneg;exact aaY hu (E x) (E y) hb x y
   ·rename_i e hu;simp only [aN,aO,reduceCtorEq,false_or] at hb;subst hneg;exact aaZ hu (E x) (E y) hb x y
   ·rename_i e hu;simp only [aN,aO,reduceCtorEq,or_false] at hb;subst hneg;exact aa0 hu (E x) (E y) hb x y
   ·rename_i fs hu;split at hb
    ·rename_i ks hks;split at hb
     ·simp [aN,aO] at hb
     ·rename_i hg';simp only [aN,aO,reduceCtorEq,or_false] at hb;subst hneg;exact TU hks (by simpa using hg') hu rfl (E x) (E y) hb x y
    ·simp [aN,aO] at hb
   ·rename_i n e hu;split at hb
    ·rename_i ks hks;split at hb
     ·simp [aN,aO] at hb
     ·rename_i hg';simp only [aN,aO,reduceCtorEq,or_false] at hb;subst hneg;exact TU hks (by simpa using hg') hu rfl (E x) (E y) hb x y
    ·simp [aN,aO] at hb
   ·simp [aN,aO] at hb
  split at h
  ·exact hcmp false rfl _ h
  ·exact hcmp true rfl _ h
  ·simp only [aN,aO,reduceCtorEq,or_false] at h;exact adt _ rfl _ h
 | unOp op ty x=>
  simp only [hop,aN,aO,reduceCtorEq,or_false] at h;exact cq (s:=Op.unary op (a.eval x)) (by simp only [execOp,hop]) (adu (E x) h)
 | nilCheck x=>
  simp only [hop,aN,aO,reduceCtorEq,or_false] at h;have hx:=E x;obtain ⟨rfl,hsh⟩:=WH hx h;rcases hsh with ⟨q,hq⟩ | ⟨f,fs,cap,hq⟩
  ·rw [hq] at hx;exact ⟨_,by simp only [execOp,hop,hq];rfl,hx⟩
  ·rw [hq] at hx;exact ⟨_,by simp only [execOp,hop,hq];rfl,hx⟩
 | convert src dst x=>
  simp only [hop] at h;split at h
  ·rename_i d k hs hd;simp only [aN,aO,reduceCtorEq,or_false] at h;have hx:=E x;split at h
   ·rename_i k' n hb;rw [hb] at hx;injection h with h;subst h
    generalize AY:a.eval x=xv at hx;cases hx;refine cq (s:=convert src dst (a.eval x)) (by simp only [execOp,hop]) ⟨_,?_,V.int _ _⟩;rw [AY];unfold convert;simp only [Sem.run_bind,aA hs,aA hd,Result.andThen_ok]
    cases d<;>rfl
   ·simp at h
  ·rename_i k hs hd;simp only [aN,aO,reduceCtorEq,or_false] at h;have hx:=E x;unfold Jr at h;split at h
   ·rename_i k' n hb;rw [hb] at hx;injection h with h;subst h
    generalize AY:a.eval x=xv at hx;cases hx;refine cq (s:=convert src dst (a.eval x)) (by simp only [execOp,hop]) ⟨_,?_,V.str _⟩;rw [AY];unfold convert;simp only [Sem.run_bind,aA hs,aA hd,Result.andThen_ok];show (Conv.intToString n).run P c.w=_;simp [Conv.intToString]
   ·simp at h
  ·split at h<;>simp [aN,aO] at h
  ·simp [aN,aO] at h
 | field ty x f=>
  simp only [hop] at h;split at h
  ·rename_i fs hu;split at h
   ·rename_i fd YH;split at h
    ·rename_i n ag hn ha;simp only [aN,aO,reduceCtorEq,or_false] at h;have hx:=E x;split at h
     ·rename_i cs hb;rw [hb] at hx;exact cq (s:=Instr.field ty (a.eval x) f) (by simp only [execOp,hop]) (aa1 hu YH hn ha hx h)
     ·simp at h
    ·simp [aN,aO] at h
   ·simp [aN,aO] at h
  ·simp [aN,aO] at h
 | fieldAddr ty x f=>
  simp only [hop] at h;split at h
  ·rename_i fs hu;split at h
   ·rename_i fd YH;split at h
    ·rename_i n hn;simp only [aN,aO,reduceCtorEq,or_false] at h;exact cq (s:=Instr.fieldAt ty (a.eval x) f) (by simp only [execOp,hop]) (aa2 hu YH hn (E x) h)
    ·simp [aN,aO] at h
   ·simp [aN,aO] at h
  ·simp [aN,aO] at h
 | indexAddr ty x i=>
  simp only [hop] at h;split at h
  ·rename_i len e hu;split at h
   ·rename_i sz hsz;simp only [aN,aO,reduceCtorEq,or_false] at h;exact cq (s:=Instr.indexAt ty (a.eval x) (a.eval i)) (by simp only [execOp,hop]) (WI hu hsz (E x) (E i) h)
   ·simp [aN,aO] at h
  ·rename_i e hu;split at h
   ·rename_i sz hsz;simp only [aN,aO,reduceCtorEq,false_or] at h;exact cq (s:=Instr.indexAt ty (a.eval x) (a.eval i)) (by simp only [execOp,hop]) (WJ hu hsz (E x) (E i) h)
   ·simp [aN,aO] at h
  ·simp [aN,aO] at h
 | index ty x i=>
  simp only [hop] at h;split at h
  ·rename_i len e hu;split at h
   ·rename_i n ag hn ha;simp only [aN,aO,reduceCtorEq,or_false] at h;exact cq (s:=Instr.index ty (a.eval x) (a.eval i)) (by simp only [execOp,hop]) (WK hu hn ha (E x) (E i) h)
   ·simp [aN,aO] at h
  ·rename_i hu;simp only [aN,aO,reduceCtorEq,or_false] at h;exact cq (s:=Instr.index ty (a.eval x) (a.eval i)) (by simp only [execOp,hop]) (WL hu (E x) (E i) h)
  ·simp [aN,aO] at h
 | slice ty x lo hi mx=>
  cases mx with
  | some m=>simp [hop,aN,aO] at h
  | none=>
   obtain ⟨l1,l2⟩:=Tz ht hg lo;obtain ⟨h1,h2⟩:=Tz ht hg hi;simp only [hop] at h;split at h
   ·rename_i hu;simp only [aN,aO,reduceCtorEq,or_false] at h;exact cq (s:=Instr.sliceAt ty (a.eval x) (lo.map a.eval) (hi.map a.eval) none) (by simp only [execOp,hop,Option.map_none]) (WM hu (E x) l1 l2 h1 h2 h)
   ·rename_i e hu;split at h
    ·rename_i sz hsz;simp only [aN,aO,reduceCtorEq,false_or] at h;exact cq (s:=Instr.sliceAt ty (a.eval x) (lo.map a.eval) (hi.map a.eval) none) (by simp only [execOp,hop,Option.map_none]) (aa3 hr hu hsz (E x) l1 l2 h1 h2 h)
    ·simp [aN,aO] at h
   ·rename_i n e hu;split at h
    ·rename_i sz hsz;simp only [aN,aO,reduceCtorEq,false_or] at h;exact cq (s:=Instr.sliceAt ty (a.eval x) (lo.map a.eval) (hi.map a.eval) none) (by simp only [execOp,hop,Option.map_none]) (WN hu hsz (E x) l1 l2 h1 h2 h)
    ·simp [aN,aO] at h
   ·simp [aN,aO] at h
 | makeFunc fn first cap=>
  cases fn with
  | func f=>
   simp only [hop] at h;split at h
   ·rename_i WQ;simp only [aN,aO,reduceCtorEq,or_false,za2] at h;subst h;have:first=#[]:=by simpa using WQ
    subst this;refine cq (s:=Instr.makeFunc (.func f) ((#[]:Array Operand).map a.eval) (cap.map a.eval)) (by simp only [execOp,hop]) ⟨_,rfl,?_⟩;rw [show (#[]:Array Operand).map a.eval=#[] from by simp];refine .fn f ((cap.toList.map cx).map (·.ev G t)) (cap.map a.eval) (by simp) fun i hi hj=>?_
    simpa using E _
   ·split at h
    case isFalse=>simp [aN,aO] at h
    rename_i hcap;simp only [aN,aO,reduceCtorEq,or_false,za2] at h;subst h;have:cap=#[]:=by simpa using hcap
    subst this;refine cq (s:=Instr.makeFunc (.func f) (first.map a.eval) ((#[]:Array Operand).map a.eval)) (by simp only [execOp,hop]) ⟨_,rfl,?_⟩;rw [show (#[]:Array Operand).map a.eval=#[] from by simp];refine .eD f ((first.toList.map cx).map (·.ev G t)) (first.map a.eval) (by simp) fun i hi hj=>?_
    simpa using E _
  | _=>simp [hop,aN,aO] at h
 | extract x i=>
  simp only [hop,aN,aO,reduceCtorEq,or_false] at h;have hx:=E x;split at h
  ·rename_i vs hb;rw [hb] at hx;generalize AY:a.eval x=xv at hx
   cases hx with
   | aY _ us hs hv=>
    obtain ⟨hi,rfl⟩:=zab.1 h;have hi':i < us.size:=by rw [hs];exact hi
    refine cq (s:=Instr.extract (a.eval x) i) (by simp only [execOp,hop]) ⟨us[i],?_,hv i hi hi'⟩;rw [AY];simp [Instr.extract,zam hi']
  ·simp at h
 | call cl=>
  simp only [hop] at h;have hargs:=sN ht hg cl.args.toList;have hbi:∀ b,cl.callee= .builtin b->execOp a.eval o=builtin b cl.argTypes o.type (cl.args.map fun | .const _=>true | _=>false) (cl.args.map a.eval):=by
   intro b hb;simp only [execOp,hop,resolve,hb];rfl
  split at h
  ·simp [aN,aO] at h
  ·simp [aN,aO] at h
  ·rename_i mu;have hex:=hbi _ mu;split at h
   ·rename_i ty x KR hx;have gF:cl.args.map a.eval=#[a.eval x]:=by
     apply zbp;simp [hx]
    split at h
    ·rename_i hu;simp only [aN,aO,reduceCtorEq,or_false] at h;split at h
     case h_2=>simp at h
     rename_i n hn;injection h with h;subst h
     have hx:=E x;simp only [qP,if_true] at hn;split at hn
     case h_2=>simp at hn
     rename_i s hs;rw [hs] at hx;injection hn with hn;subst hn
     generalize AY:a.eval x=xv at hx gF;cases hx;refine ⟨_,?_,V.int _ _⟩;have hsz:(⟨s.toArray⟩:ByteArray).size=s.length:=by simp [ByteArray.size]
     rw [hex,gF,<-hsz];simp [builtin,Builtin.len_,KR,aA hu,goInt]
    ·rename_i e hu;simp only [aN,aO,reduceCtorEq,or_false] at h;split at h
     case h_2=>simp at h
     rename_i n hn;injection h with h;subst h
     simp only [qP,za9,if_false] at hn;obtain ⟨q,l,k,hs,rfl⟩:=R6 (E x) hn;refine ⟨_,?_,V.int _ _⟩;rw [hex,gF,hs];simp [builtin,Builtin.len_,KR,aA hu,goInt]
    ·rename_i n e hu;simp only [aN,aO,reduceCtorEq,or_false,za2] at h;subst h;refine ⟨_,?_,V.int _ _⟩;rw [hex,gF];simp [builtin,Builtin.len_,KR,aA hu,goInt]
    ·simp [aN,aO] at h
    ·simp [aN,aO] at h
   ·simp [aN,aO] at h
  ·split at h
   ·(repeat' split at h)<;>simp [aN,aO] at h
   ·simp [aN,aO] at h
  ·rename_i mu;simp only [aN,aO,reduceCtorEq,or_false] at h;have h':(match (cl.args.toList.map cx).map (·.ev G t) with | x::r=>jA min2 x r | []=>none)=some v:=h;obtain ⟨x,q,u,e1,e2,e3⟩:=zJ (P:=P) (g:=Builtin.min2) V4 (by simp) hargs h';refine ⟨u,?_,e3⟩;rw [hbi _ mu];simp only [builtin,Builtin.min_];have:(cl.args.map a.eval).toList=x::q:=by rw [<-e1];simp
   simp only [this,Sem.run_bind,e2,Result.andThen_ok,Sem.run_pure]
  ·rename_i mu;simp only [aN,aO,reduceCtorEq,or_false] at h;have h':(match (cl.args.toList.map cx).map (·.ev G t) with | x::r=>jA max2 x r | []=>none)=some v:=h;obtain ⟨x,q,u,e1,e2,e3⟩:=zJ (P:=P) (g:=Builtin.max2) V5 (by simp) hargs h';refine ⟨u,?_,e3⟩;rw [hbi _ mu];simp only [builtin,Builtin.max_];have:(cl.args.map a.eval).toList=x::q:=by rw [<-e1];simp
   simp only [this,Sem.run_bind,e2,Result.andThen_ok,Sem.run_pure]
  ·rename_i mu;have hex:=hbi _ mu;split at h
   ·rename_i ty x KR hx;have gF:cl.args.map a.eval=#[a.eval x]:=by
     apply zbp;simp [hx]
    split at h
    ·rename_i e hu;simp only [aN,aO,reduceCtorEq,or_false] at h;split at h
     case h_2=>simp at h
     rename_i hs;injection h with h;subst h
     have hx:=E x;rw [hs] at hx;generalize AY:a.eval x=xv at hx gF;cases hx;refine ⟨_,?_,V.int _ _⟩;rw [hex,gF];simp [builtin,Builtin.cap_,KR,aA hu,goInt]
    ·simp [aN,aO] at h
   ·simp [aN,aO] at h
  ·simp [aN,aO] at h
 | makeMap ty r=>cases r<;>simp [hop,aN,aO] at h
 | next x b=>cases b<;>simp [hop,aN,aO] at h
 | _=>simp only [hop] at h;(repeat' split at h)<;>simp [aN,aO] at h
end
end Go.Am
end
