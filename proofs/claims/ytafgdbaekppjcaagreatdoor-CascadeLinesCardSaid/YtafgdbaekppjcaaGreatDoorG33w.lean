/- Known calls of the chapter's examples, printed by a program of mine. No condition. -/
import Derived.Test.YtafgdbaekppjcaaGreatDoorG33H
import Derived.Test.YtafgdbaekppjcaaGreatDoorAmZf
set_option linter.unusedSectionVars false
set_option linter.unusedVariables false
set_option linter.unusedSimpArgs false
namespace G33
open Go hiding Obj mark
open Go.Am Go.Am.As
abbrev i (n:Int):AV:= .int .i64 n
abbrev b (x:Bool):AV:= .bool x
abbrev s (l:List UInt8):AV:= .str l
abbrev q (l:List (List AV)):AV:= .ro l
def said (x:Option AV) (r:AV):Bool:=match x with | some v=>AV.same v r | none=>false
abbrev Tab:=List (Nat×List AV×AV)
theorem said_eq {x:Option AV} {r:AV} (h:said x r=true):x=some r:=by
 cases x with
 | none=>cases h
 | some v=>rw [AV.same_eq h]
def Kn (t:Tab) (e:Nat×List AV×AV):Prop:=said (cIF t E0.fns (execF E0 hp t 100000) e.1 e.2.1) e.2.2=true
theorem known {t:Tab} {e:Nat×List AV×AV} (h:∃ N,TabOk E0 hp t N) (k:Kn t e):∃ N,TabOk E0 hp (e::t) N:=by
 obtain ⟨N,h⟩:=h
 unfold Kn at k
 rw [cIF_eq,execF_eq] at k
 exact ⟨_,h.cons (said_eq k)⟩
def v0:AV:=q [[i 0],[i 0],[i 0],[i 0],[i 0],[i 0],[i 0],[i 0],[i 0],[i 0]]
def v1:AV:=q [[b false],[b true],[b true],[b true],[b false],[b false],[b true],[b false],[b true],[b false]]
def v2:AV:=q [[b true],[b false],[b false],[b false],[b true],[b true],[b false],[b true],[b false],[b true]]
def v3:AV:=q [[b false],[b true],[b true],[b false],[b false],[b false],[b true],[b false],[b false],[b false]]
def v4:AV:=q [[b true],[b false],[b false],[b false],[b true],[b false],[b false],[b false],[b false],[b true]]
def v5:AV:=q [[b false],[b true],[b false],[b false],[b false],[b false],[b false],[b false],[b false],[b false]]
def v6:AV:= .agg [i 2,q [[q [[i 0,b true]],i 0],[q [[i 1,b true]],i 0],[q [[i 1,b false]],i 0],[q [[i 0,b false]],i 0]]]
def v7:AV:= .agg [i 2,q [[q [[i 0,b true]],i 20],[q [[i 0,b false]],i 0],[q [[i 1,b true]],i 0],[q [[i 1,b false]],i 0]]]
def v8:AV:= .agg [q [[i 2],[i 2]],q [[b true],[b true]],q [[b true]],q [[b true],[b true],[b true],[b true],[b false],[b false],[b true],[b false],[b true],[b false]],v0]
def v9:AV:= .agg [q [[i 2],[i 1]],q [[b true],[b true]],q [[b true]],v1,v0]
def v10:AV:= .agg [q [[i 2],[i 2]],q [[b true],[b true]],q [[b true]],v1,v0]
def v11:AV:= .agg [q [[i 2],[i 0]],q [[b true],[b false]],q [[b true]],v1,v0]
def v12:AV:= .agg [q [[i 2],[i 0]],q [[b true],[b false]],q [[b true]],v2,v0]
def v13:AV:= .agg [q [[i 2],[i 2]],q [[b true],[b true]],q [[b true]],v4,v0]
def v14:AV:= .agg [q [[i 3],[i 0]],q [[b false],[b false]],q [[b true]],v2,v0]
def v15:AV:= .agg [q [[i 0],[i 0]],q [[b false],[b false]],q [[b true]],v2,v0]
def v16:AV:= .agg [q [[i 1],[i 0]],q [[b true],[b false]],q [[b true]],v3,v0]
def v17:AV:= .agg [q [[i 2],[i 0]],q [[b true],[b false]],q [[b true]],v3,v0]
def v18:AV:= .agg [q [[i 2],[i 3]],q [[b true],[b false]],q [[b true]],v4,v0]
def v19:AV:= .agg [q [[i 2],[i 0]],q [[b true],[b false]],q [[b true]],v4,v0]
def v20:AV:= .agg [q [[i 0],[i 0]],q [[b false],[b false]],q [[b true]],q [[b false],[b false],[b false],[b false],[b true],[b true],[b false],[b true],[b false],[b true]],v0]
def v21:AV:= .agg [q [[i 0],[i 0]],q [[b false],[b false]],q [[b true]],v3,v0]
def v22:AV:= .agg [q [[i 0],[i 0]],q [[b false],[b false]],q [[b true]],v5,v0]
def v23:AV:= .agg [q [[i 0],[i 0]],q [[b false],[b false]],q [[b false]],v5,v0]
def v24:AV:= .agg [i 2,q [[s [115,116,97,114,116]]],q [[s [103,49],i 1,i 1,i 3,q [],i 1,i 0,q [],i 0,b false],[s [103,48],i 0,i 2,i 0,q [[i 1,i 5,q []]],i 0,i 0,q [],i 0,b false],[s [115,48],i 0,i 3,i 0,q [[i 1,i 6,q []],[i 1,i 4,q []]],i 0,i 0,q [],i 0,b false],[s [115,49],i 0,i 3,i 0,q [[i 1,i 6,q []],[i 1,i 1,q []]],i 0,i 0,q [],i 0,b false],[s [115,50],i 0,i 1,i 5,q [],i 0,i 0,q [],i 0,b false],[s [115,51],i 0,i 3,i 0,q [[i 1,i 5,q []],[i 1,i 2,q []]],i 0,i 0,q [],i 0,b false],[s [97,112],i 0,i 1,i 7,q [],i 0,i 0,q [],i 0,b false],[s [97,109],i 0,i 1,i 10,q [],i 0,i 0,q [],i 0,b false],[s [98,112],i 0,i 1,i 8,q [],i 0,i 0,q [],i 0,b false],[s [98,109],i 0,i 1,i 9,q [],i 0,i 0,q [],i 0,b false]],q [[i 11],[i 13]],q [[i 12],[i 14]]]
def t0:Tab:=[]
def e0:Nat×List AV×AV:=(79,[s [65,43,59,32,66,43,59,32,66,45,59,32,65,45]],.tup [v6,i 0,i 0])
def t1:Tab:=e0::t0
def e1:Nat×List AV×AV:=(26,[v6],.tup [v24,i 0])
def t2:Tab:=e1::t1
def e2:Nat×List AV×AV:=(64,[v24],i 0)
def t3:Tab:=e2::t2
def e3:Nat×List AV×AV:=(42,[v24],.tup [v23,i 0])
def t4:Tab:=e3::t3
def e4:Nat×List AV×AV:=(94,[v24,v23],i 0)
def t5:Tab:=e4::t4
def e5:Nat×List AV×AV:=(188,[v23,v23],b true)
def t6:Tab:=e5::t5
def e6:Nat×List AV×AV:=(114,[v24,v23],.tup [v23,.nils,i 0])
def t7:Tab:=e6::t6
def e7:Nat×List AV×AV:=(65,[v24],.tup [v23,.nils,i 0])
def t8:Tab:=e7::t7
def e8:Nat×List AV×AV:=(94,[v24,v22],i 0)
def t9:Tab:=e8::t8
def e9:Nat×List AV×AV:=(188,[v22,v21],b false)
def t10:Tab:=e9::t9
def e10:Nat×List AV×AV:=(188,[v21,v21],b true)
def t11:Tab:=e10::t10
def e11:Nat×List AV×AV:=(188,[v16,v22],b false)
def t12:Tab:=e11::t11
def e12:Nat×List AV×AV:=(94,[v24,v16],i 0)
def t13:Tab:=e12::t12
def e13:Nat×List AV×AV:=(188,[v16,v16],b true)
def t14:Tab:=e13::t13
def e14:Nat×List AV×AV:=(114,[v24,v22],.tup [v16,.nils,i 0])
def t15:Tab:=e14::t14
def e15:Nat×List AV×AV:=(66,[v24,v23,.agg [i 2,i 0,b true]],.tup [v16,.nils,i 0])
def t16:Tab:=e15::t15
def e16:Nat×List AV×AV:=(68,[v24,v16],.tup [q [[i 0,i 0,b false]],i 0])
def t17:Tab:=e16::t16
def e17:Nat×List AV×AV:=(94,[v24,v17],i 0)
def t18:Tab:=e17::t17
def e18:Nat×List AV×AV:=(188,[v17,v11],b false)
def t19:Tab:=e18::t18
def e19:Nat×List AV×AV:=(188,[v11,v11],b true)
def t20:Tab:=e19::t19
def e20:Nat×List AV×AV:=(188,[v9,v17],b false)
def t21:Tab:=e20::t20
def e21:Nat×List AV×AV:=(94,[v24,v9],i 0)
def t22:Tab:=e21::t21
def e22:Nat×List AV×AV:=(188,[v9,v9],b true)
def t23:Tab:=e22::t22
def e23:Nat×List AV×AV:=(114,[v24,v17],.tup [v9,.nils,i 0])
def t24:Tab:=e23::t23
def e24:Nat×List AV×AV:=(66,[v24,v16,.agg [i 0,i 0,b false]],.tup [v9,.nils,i 0])
def t25:Tab:=e24::t24
def e25:Nat×List AV×AV:=(68,[v24,v9],.tup [q [[i 0,i 1,b false]],i 0])
def t26:Tab:=e25::t25
def e26:Nat×List AV×AV:=(94,[v24,v10],i 0)
def t27:Tab:=e26::t26
def e27:Nat×List AV×AV:=(188,[v10,v8],b false)
def t28:Tab:=e27::t27
def e28:Nat×List AV×AV:=(188,[v8,v13],b false)
def t29:Tab:=e28::t28
def e29:Nat×List AV×AV:=(188,[v13,v13],b true)
def t30:Tab:=e29::t29
def e30:Nat×List AV×AV:=(188,[v18,v10],b false)
def t31:Tab:=e30::t30
def e31:Nat×List AV×AV:=(94,[v24,v18],i 0)
def t32:Tab:=e31::t31
def e32:Nat×List AV×AV:=(188,[v18,v18],b true)
def t33:Tab:=e32::t32
def e33:Nat×List AV×AV:=(114,[v24,v10],.tup [v18,.nils,i 0])
def t34:Tab:=e33::t33
def e34:Nat×List AV×AV:=(66,[v24,v9,.agg [i 0,i 1,b false]],.tup [v18,.nils,i 0])
def t35:Tab:=e34::t34
def e35:Nat×List AV×AV:=(68,[v24,v18],.tup [q [[i 0,i 1,b false]],i 0])
def t36:Tab:=e35::t35
def e36:Nat×List AV×AV:=(94,[v24,v19],i 0)
def t37:Tab:=e36::t36
def e37:Nat×List AV×AV:=(188,[v19,v12],b false)
def t38:Tab:=e37::t37
def e38:Nat×List AV×AV:=(188,[v12,v12],b true)
def t39:Tab:=e38::t38
def e39:Nat×List AV×AV:=(188,[v14,v19],b false)
def t40:Tab:=e39::t39
def e40:Nat×List AV×AV:=(94,[v24,v14],i 0)
def t41:Tab:=e40::t40
def e41:Nat×List AV×AV:=(188,[v14,v14],b true)
def t42:Tab:=e41::t41
def e42:Nat×List AV×AV:=(114,[v24,v19],.tup [v14,.nils,i 0])
def t43:Tab:=e42::t42
def e43:Nat×List AV×AV:=(66,[v24,v18,.agg [i 0,i 1,b false]],.tup [v14,.nils,i 0])
def t44:Tab:=e43::t43
def e44:Nat×List AV×AV:=(68,[v24,v14],.tup [q [[i 0,i 0,b false]],i 0])
def t45:Tab:=e44::t44
def e45:Nat×List AV×AV:=(94,[v24,v15],i 0)
def t46:Tab:=e45::t45
def e46:Nat×List AV×AV:=(188,[v15,v20],b false)
def t47:Tab:=e46::t46
def e47:Nat×List AV×AV:=(188,[v20,v21],b false)
def t48:Tab:=e47::t47
def e48:Nat×List AV×AV:=(188,[v16,v15],b false)
def t49:Tab:=e48::t48
def e49:Nat×List AV×AV:=(114,[v24,v15],.tup [v16,.nils,i 0])
def t50:Tab:=e49::t49
def e50:Nat×List AV×AV:=(66,[v24,v14,.agg [i 0,i 0,b false]],.tup [v16,.nils,i 0])
def t51:Tab:=e50::t50
def e51:Nat×List AV×AV:=(29,[v24,i 5],.tup [q [[i 0,b true],[i 1,b true],[i 1,b false],[i 0,b false],[i 0,b true]],i 0])
def t52:Tab:=e51::t51
def e52:Nat×List AV×AV:=(79,[s [65,43,32,50,48,59,32,65,45,59,32,66,43,59,32,66,45]],.tup [v7,i 0,i 0])
def t53:Tab:=e52::t52
def e53:Nat×List AV×AV:=(26,[v7],.tup [.agg [i 2,q [[s [115,116,97,114,116]]],q [[s [103,48],i 1,i 3,i 0,q [[i 1,i 7,q []],[i 1,i 2,q []]],i 1,i 6,q [],i 0,b true],[s [103,49],i 1,i 3,i 0,q [[i 1,i 5,q []],[i 1,i 8,q []]],i 1,i 7,q [],i 0,b false],[s [103,50],i 1,i 3,i 0,q [[i 1,i 6,q []],[i 1,i 3,q []]],i 1,i 5,q [],i 0,b false],[s [119,48],i 2,i 3,i 0,q [[i 1,i 5,q []],[i 1,i 1,q []]],i 0,i 0,q [],i 20,b false],[s [115,48],i 0,i 3,i 0,q [[i 1,i 5,q []],[i 1,i 4,q []]],i 0,i 0,q [],i 0,b false],[s [115,49],i 0,i 1,i 6,q [],i 0,i 0,q [],i 0,b false],[s [115,50],i 0,i 3,i 0,q [[i 1,i 6,q []],[i 1,i 0,q []]],i 0,i 0,q [],i 0,b false],[s [115,51],i 0,i 1,i 7,q [],i 0,i 0,q [],i 0,b false],[s [97,112],i 0,i 1,i 9,q [],i 0,i 0,q [],i 0,b false],[s [97,109],i 0,i 1,i 10,q [],i 0,i 0,q [],i 0,b false],[s [98,112],i 0,i 1,i 11,q [],i 0,i 0,q [],i 0,b false],[s [98,109],i 0,i 1,i 12,q [],i 0,i 0,q [],i 0,b false]],q [[i 13],[i 15]],q [[i 14],[i 16]]],i 0])
def t54:Tab:=e53::t53
def e54:Nat×List AV×AV:=(25,[],b true)
def t55:Tab:=e54::t54
end G33
