/- Known calls of the chapter's examples, printed by a program of mine. No condition. -/
import Derived.Test.YtafgdbaekppjcaaGreatDoorAmHx
import Derived.Test.YtafgdbaekppjcaaGreatDoorAmZf
set_option linter.unusedSectionVars false
set_option linter.unusedVariables false
set_option linter.unusedSimpArgs false
namespace ck
open Go hiding Obj mark
open Go.Am Go.Am.As
abbrev i (n:Int):AV:= .int .i64 n
abbrev b (x:Bool):AV:= .bool x
abbrev s (l:List UInt8):AV:= .str l
abbrev q (l:List (List AV)):AV:= .ro l
def said (x:Option AV) (r:AV):Bool:=match x with | some v=>AV.same v r | none=>false
abbrev uN:=List (Nat×List AV×AV)
theorem S2 {x:Option AV} {r:AV} (h:said x r=true):x=some r:=by
 cases x with
 | none=>cases h
 | some v=>rw [AV.bx h]
def Kn (t:uN) (e:Nat×List AV×AV):Prop:=said (m6 t E0.fns (L8 E0 hp t 100000) e.1 e.2.1) e.2.2=true
theorem known {t:uN} {e:Nat×List AV×AV} (h:∃ N,jz E0 hp t N) (k:Kn t e):∃ N,jz E0 hp (e::t) N:=by
 obtain ⟨N,h⟩:=h;unfold Kn at k;rw [wH,D1] at k;exact ⟨_,h.cons (S2 k)⟩
def v0:AV:=q [[i 0],[i 0],[i 0],[i 0],[i 0],[i 0],[i 0],[i 0]]
def v1:AV:= .agg [i 1,q [[q [[i 0,b true]],i 0],[q [[i 0,b false]],i 30]]]
def v2:AV:=q [[b false],[b false],[b false],[b true],[b false],[b true],[b false],[b false]]
def v3:AV:=q [[b true],[b false],[b false],[b false],[b true],[b false],[b false],[b false]]
def v4:AV:=q [[b false],[b true],[b false],[b false],[b false],[b false],[b true],[b false]]
def v5:AV:=q [[b false],[b false],[b true],[b false],[b false],[b false],[b false],[b true]]
def v6:AV:= .agg [i 2,q [[q [[i 0,b true]],i 0],[q [[i 1,b true]],i 0],[q [[i 1,b false]],i 0],[q [[i 0,b false]],i 0]]]
def v7:AV:= .agg [q [[i 2],[i 1]],q [[b true],[b true]],q [[b true]],v4,v0]
def v8:AV:= .agg [q [[i 1],[i 0]],q [[b true],[b false]],q [[b true]],v3,v0]
def v9:AV:= .agg [q [[i 2],[i 3]],q [[b true],[b false]],q [[b true]],v5,v0]
def v10:AV:= .agg [q [[i 3],[i 0]],q [[b false],[b false]],q [[b true]],v2,v0]
def v11:AV:= .agg [q [[i 0],[i 0]],q [[b false],[b false]],q [[b false]],v2,v0]
def og:AV:= .agg [i 2,q [[s [115,116,97,114,116]]],q [[s [109,48],i 1,i 3,i 0,q [[i 1,i 8,q []],[i 1,i 0,q []],[i 1,i 4,q []]],i 1,i 6,q [],i 0,b false],[s [109,49],i 1,i 3,i 0,q [[i 1,i 5,q []],[i 1,i 1,q []]],i 1,i 7,q [],i 0,b false],[s [109,50],i 1,i 3,i 0,q [[i 1,i 6,q []],[i 1,i 3,q []]],i 1,i 8,q [],i 0,b false],[s [109,51],i 1,i 3,i 0,q [[i 1,i 7,q []],[i 1,i 2,q []]],i 1,i 5,q [],i 0,b true],[s [97,112],i 0,i 1,i 5,q [],i 0,i 0,q [],i 0,b false],[s [97,109],i 0,i 1,i 8,q [],i 0,i 0,q [],i 0,b false],[s [98,112],i 0,i 1,i 6,q [],i 0,i 0,q [],i 0,b false],[s [98,109],i 0,i 1,i 7,q [],i 0,i 0,q [],i 0,b false]],q [[i 9],[i 11]],q [[i 10],[i 12]]]
def t0:uN:=[]
def e0:Nat×List AV×AV:=(79,[s [65,43,59,32,66,43,59,32,66,45,59,32,65,45]],.aY [v6,i 0,i 0])
def t1:uN:=e0::t0
def e1:Nat×List AV×AV:=(12,[v6],.aY [og,i 0])
def t2:uN:=e1::t1
def e2:Nat×List AV×AV:=(64,[og],i 0)
def t3:uN:=e2::t2
def e3:Nat×List AV×AV:=(114,[og,v11],.aY [v11,.bF,i 0])
def t4:uN:=e3::t3
def e4:Nat×List AV×AV:=(114,[og,.agg [q [[i 0],[i 0]],q [[b false],[b false]],q [[b true]],v2,v0]],.aY [v8,.bF,i 0])
def t5:uN:=e4::t4
def e5:Nat×List AV×AV:=(66,[og,v11,.agg [i 2,i 0,b true]],.aY [v8,.bF,i 0])
def t6:uN:=e5::t5
def e6:Nat×List AV×AV:=(68,[og,v8],.aY [q [[i 0,i 0,b false]],i 0])
def t7:uN:=e6::t6
def e7:Nat×List AV×AV:=(114,[og,.agg [q [[i 2],[i 0]],q [[b true],[b false]],q [[b true]],v3,v0]],.aY [v7,.bF,i 0])
def t8:uN:=e7::t7
def e8:Nat×List AV×AV:=(66,[og,v8,.agg [i 0,i 0,b false]],.aY [v7,.bF,i 0])
def t9:uN:=e8::t8
def e9:Nat×List AV×AV:=(68,[og,v7],.aY [q [[i 0,i 1,b false]],i 0])
def t10:uN:=e9::t9
def e10:Nat×List AV×AV:=(114,[og,.agg [q [[i 2],[i 2]],q [[b true],[b true]],q [[b true]],v4,v0]],.aY [v9,.bF,i 0])
def t11:uN:=e10::t10
def e11:Nat×List AV×AV:=(66,[og,v7,.agg [i 0,i 1,b false]],.aY [v9,.bF,i 0])
def t12:uN:=e11::t11
def e12:Nat×List AV×AV:=(68,[og,v9],.aY [q [[i 0,i 1,b false]],i 0])
def t13:uN:=e12::t12
def e13:Nat×List AV×AV:=(114,[og,.agg [q [[i 2],[i 0]],q [[b true],[b false]],q [[b true]],v5,v0]],.aY [v10,.bF,i 0])
def t14:uN:=e13::t13
def e14:Nat×List AV×AV:=(66,[og,v9,.agg [i 0,i 1,b false]],.aY [v10,.bF,i 0])
def t15:uN:=e14::t14
def e15:Nat×List AV×AV:=(68,[og,v10],.aY [q [[i 0,i 0,b false]],i 0])
def t16:uN:=e15::t15
def e16:Nat×List AV×AV:=(66,[og,v10,.agg [i 0,i 0,b false]],.aY [v8,.bF,i 0])
def t17:uN:=e16::t16
def e17:Nat×List AV×AV:=(29,[og,i 5],.aY [q [[i 0,b true],[i 1,b true],[i 1,b false],[i 0,b false],[i 0,b true]],i 0])
def t18:uN:=e17::t17
def e18:Nat×List AV×AV:=(19,[v6,v11],.aY [q [[i 3]],i 0])
def t19:uN:=e18::t18
def e19:Nat×List AV×AV:=(79,[s [65,43,59,32,65,45,32,51,48]],.aY [v1,i 0,i 0])
def t20:uN:=e19::t19
def e20:Nat×List AV×AV:=(12,[v1],.aY [.agg [i 1,q [[s [115,116,97,114,116]]],q [[s [109,49],i 1,i 1,i 1,q [],i 3,i 0,q [[i 1,i 5,q []],[i 1,i 2,q []]],i 0,b true],[s [109,48],i 0,i 2,i 0,q [[i 1,i 3,q []]],i 0,i 0,q [],i 0,b false],[s [119,49],i 2,i 3,i 0,q [[i 1,i 3,q []],[i 1,i 0,q []]],i 0,i 0,q [],i 30,b false],[s [97,112],i 0,i 1,i 4,q [],i 0,i 0,q [],i 0,b false],[s [97,109],i 0,i 1,i 3,q [],i 0,i 0,q [],i 0,b false]],q [[i 6]],q [[i 7]]],i 0])
def t21:uN:=e20::t20
def e21:Nat×List AV×AV:=(11,[],b true)
def t22:uN:=e21::t21
end ck
