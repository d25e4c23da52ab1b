import Derived.Test.YtnnblpijaoocaaaGreatZHd
import Derived.Test.YtnnblpijaoocaaaGreatRows
set_option linter.all false
set_option maxRecDepth 100000
set_option maxHeartbeats 0
namespace Go.Ax
open Go.Proofs Go.Proofs.YtnnblpijaoocaaaGreat
/- pension/pensionmade.Pick -/
noncomputable def f15:FI:={ fid:=15,fn:=Tryz.f15,c:=ac Tryz.f15,ins:={ sl:=[(0, .t (.i .i64)),(1, .t (.i .i64))] },out:=.new (.t (.i .i64)),cuts:=[] }
noncomputable def f42:FI:={ fid:=42,fn:=Tryz.f42,c:=ac Tryz.f42,ins:={ sl:=[(0, .t (.i .i64)),(1, .t (.i .i64))] },out:=.new (.t (.i .i64)),cuts:=[] }
noncomputable def f59:FI:={ fid:=59,fn:=Tryz.f59,c:=ac Tryz.f59,ins:={ sl:=[(0, .t (.ls (.i .i64))),(1, .t (.i .i64))] },out:=.new (.t (.i .i64)),cuts:=[] }
abbrev An:Tm:={ sl:=[(0, .t (.ls (.i .i64))),(3, .k (.row 0 14)),(4, .t (.i .i64))],ob:=[.row 38 (.st .GFact)] }
noncomputable def f30:FI:={ fid:=30,fn:=Tryz.f30,c:=ac Tryz.f30,ins:={ sl:=[(0, .t (.ls (.i .i64)))] },out:=.own true 38 (.st .GFact),cuts:=[(58,An)] }
abbrev AY:Tm:={ sl:=[(0, .t (.ls (.st .GFact))),(1, .t (.i .i64)),(5, .k (.row 0 14)),(6, .t (.i .i64))],ob:=[.row 38 (.st .GFact)] }
noncomputable def f29:FI:={ fid:=29,fn:=Tryz.f29,c:=ac Tryz.f29,ins:={ sl:=[(0, .t (.ls (.st .GFact))),(1, .t (.i .i64))] },out:=.own true 38 (.st .GFact),cuts:=[(58,AY)] }
noncomputable def f44:FI:={ fid:=44,fn:=Tryz.f44,c:=ac Tryz.f44,ins:={ sl:=[(0, .t (.i .i64))] },out:=.new (.t (.s)),cuts:=[] }
abbrev xB:Tm:={ sl:=[(1, .t (.i .u8)),(5, .t (.s)),(6, .t (.i .i64))],ob:=[] }
noncomputable def f106:FI:={ fid:=106,fn:=Tryz.f106,c:=ac Tryz.f106,ins:={ sl:=[(0, .t (.i .i64)),(1, .t (.i .u8))] },out:=.new (.t (.b)),cuts:=[(58,xB)] }
noncomputable def f71:FI:={ fid:=71,fn:=Tryz.f71,c:=ac Tryz.f71,ins:={ sl:=[(0, .t (.i .i64)),(1, .t (.i .u8)),(2, .t (.i .i64)),(3, .t (.i .i64)),(4, .t (.i .i64))] },out:=.new (.t (.b)),cuts:=[] }
noncomputable def f45:FI:={ fid:=45,fn:=Tryz.f45,c:=ac Tryz.f45,ins:={ sl:=[(0, .t (.st .GFact))] },out:=.new (.t (.b)),cuts:=[] }
noncomputable def f46:FI:={ fid:=46,fn:=Tryz.f46,c:=ac Tryz.f46,ins:={ sl:=[(0, .t (.st .GFact)),(1, .t (.st .GFact))] },out:=.new (.t (.i .i64)),cuts:=[] }
abbrev IU:Tm:={ sl:=[(0, .k (.row 0 1)),(1, .t (.i .i64)),(7, .t (.i .i64))],ob:=[.row 5 (.i .u8)] }
noncomputable def f107:FI:={ fid:=107,fn:=Tryz.f107,c:=ac Tryz.f107,ins:={ sl:=[(0, .k (.c .nil)),(1, .t (.i .i64)),(2, .t (.i .i64))],ob:=[] },out:=.gen ({ sl:=[(2000000, .tp [.k (.row 0 1)])],ob:=[.row 5 (.i .u8)] }),cuts:=[(26,IU)] }
abbrev sB:Tm:={ sl:=[(0, .k (.row 0 1)),(1, .t (.i .i64)),(7, .t (.i .i64))],ob:=[.row 5 (.i .u8)] }
noncomputable def lg:FI:={ fid:=107,fn:=Tryz.f107,c:=ac Tryz.f107,ins:={ sl:=[(0, .k (.row 0 1)),(1, .t (.i .i64)),(2, .t (.i .i64))],ob:=[.row 5 (.i .u8)] },out:=.gen ({ sl:=[(2000000, .tp [.k (.row 0 1)])],ob:=[.row 5 (.i .u8)] }),cuts:=[(26,sB)] }
abbrev BV:Tm:={ sl:=[(1, .k (.ptr 0 14 0 0)),(3, .t (.i .i64))],ob:=[.box [.t (.st .GFact)]] }
abbrev uP:Tm:={ sl:=[(1, .k (.ptr 0 14 0 0)),(4, .k (.row 1 1)),(5, .t (.s)),(6, .t (.i .i64))],ob:=[.box [.t (.st .GFact)], .row 5 (.i .u8)] }
abbrev ue:Tm:={ sl:=[(1, .k (.ptr 0 14 0 0)),(4, .k (.row 1 1)),(5, .t (.s)),(6, .t (.i .i64))],ob:=[.box [.t (.st .GFact)], .row 5 (.i .u8)] }
noncomputable def f72:FI:={ fid:=72,fn:=Tryz.f72,c:=ac Tryz.f72,ins:={ sl:=[(0, .t (.st .GFact))] },out:=.own true 5 (.i .u8),cuts:=[(31,BV),(1018,uP),(8147,ue)] }
noncomputable def f47:FI:={ fid:=47,fn:=Tryz.f47,c:=ac Tryz.f47,ins:={ sl:=[(0, .t (.st .GFact)),(1, .t (.st .GFact))] },out:=.new (.t (.b)),cuts:=[] }
abbrev Ca:Tm:={ sl:=[(0, .t (.ls (.st .GFact))),(1, .t (.ls (.st .GFact))),(5, .k (.row 0 14)),(6, .t (.i .i64))],ob:=[.row 38 (.st .GFact)] }
abbrev um:Tm:={ sl:=[(0, .t (.ls (.st .GFact))),(1, .t (.ls (.st .GFact))),(5, .k (.row 0 14)),(6, .t (.i .i64)),(7, .k (.ptr 1 14 0 0))],ob:=[.row 38 (.st .GFact), .box [.t (.st .GFact)]] }
abbrev rB:Tm:={ sl:=[(0, .t (.ls (.st .GFact))),(1, .t (.ls (.st .GFact))),(5, .k (.row 0 14)),(6, .t (.i .i64)),(7, .k (.ptr 1 14 0 0)),(8, .t (.i .i64))],ob:=[.row 38 (.st .GFact), .box [.t (.st .GFact)]] }
noncomputable def f17:FI:={ fid:=17,fn:=Tryz.f17,c:=ac Tryz.f17,ins:={ sl:=[(0, .t (.ls (.st .GFact))),(1, .t (.ls (.st .GFact)))] },out:=.own true 38 (.st .GFact),cuts:=[(58,Ca),(3731,um),(59708,rB)] }
noncomputable def f43:FI:={ fid:=43,fn:=Tryz.f43,c:=ac Tryz.f43,ins:={ sl:=[(0, .t (.i .i64))] },out:=.new (.t (.i .i64)),cuts:=[] }
abbrev xt:Tm:={ sl:=[(1, .k (.ptr 0 13 0 0)),(2, .k (.ptr 1 14 0 0)),(3, .k (.ptr 2 14 0 0)),(4, .t (.i .i64)),(5, .t (.i .i64))],ob:=[.box [.t (.st .GPensionhand_Fact)], .box [.t (.st .GFact)], .box [.t (.st .GFact)]] }
abbrev uC:Tm:={ sl:=[(1, .k (.ptr 0 13 0 0)),(2, .k (.ptr 1 14 0 0)),(3, .k (.ptr 2 14 0 0)),(4, .t (.i .i64)),(5, .t (.i .i64)),(6, .t (.s)),(7, .t (.i .i64))],ob:=[.box [.t (.st .GPensionhand_Fact)], .box [.t (.st .GFact)], .box [.t (.st .GFact)]] }
abbrev rE:Tm:={ sl:=[(1, .k (.ptr 0 13 0 0)),(2, .k (.ptr 1 14 0 0)),(3, .k (.ptr 2 14 0 0)),(4, .t (.i .i64)),(5, .t (.i .i64)),(6, .t (.s)),(7, .t (.i .i64))],ob:=[.box [.t (.st .GPensionhand_Fact)], .box [.t (.st .GFact)], .box [.t (.st .GFact)]] }
noncomputable def f16:FI:={ fid:=16,fn:=Tryz.f16,c:=ac Tryz.f16,ins:={ sl:=[(0, .t (.st .GPensionhand_Fact))] },out:=.new (.t (.st .GFact)),cuts:=[(127,xt),(2042,uC),(16339,rE)] }
abbrev A7:Tm:={ sl:=[(0, .t (.ls (.st .GPensionhand_Fact))),(1, .t (.ls (.i .i64))),(2, .t (.b)),(7, .k (.row 0 14)),(8, .t (.i .i64))],ob:=[.row 38 (.st .GFact)] }
abbrev ur:Tm:={ sl:=[(0, .t (.ls (.st .GPensionhand_Fact))),(1, .t (.ls (.i .i64))),(2, .t (.b)),(7, .k (.row 0 14)),(8, .t (.i .i64)),(9, .k (.ptr 1 13 0 0))],ob:=[.row 38 (.st .GFact), .box [.t (.st .GPensionhand_Fact)]] }
noncomputable def f11:FI:={ fid:=11,fn:=Tryz.f11,c:=ac Tryz.f11,ins:={ sl:=[(0, .t (.ls (.st .GPensionhand_Fact))),(1, .t (.ls (.i .i64))),(2, .t (.b))] },out:=.own true 38 (.st .GFact),cuts:=[(58,A7),(7463,ur)] }
abbrev uJ:Tm:={ sl:=[(3, .t (.i .i64)),(6, .t (.b))],ob:=[] }
abbrev sK:Tm:={ sl:=[(3, .t (.i .i64)),(11, .t (.b))],ob:=[] }
abbrev oz:Tm:={ sl:=[(3, .t (.i .i64)),(20, .t (.b))],ob:=[] }
noncomputable def f137:FI:={ fid:=137,fn:=Tryz.f137,c:=ac Tryz.f137,ins:={ sl:=[(0, .t (.i .i64))] },out:=.new (.t (.s)),cuts:=[(215,uJ),(3455,sK),(221183,oz)] }
noncomputable def f140:FI:={ fid:=140,fn:=Tryz.f140,c:=ac Tryz.f140,ins:={ sl:=[(0, .t (.i .i64)),(1, .t (.i .i64)),(2, .t (.i .i64))] },out:=.new (.t (.b)),cuts:=[] }
noncomputable def f251:FI:={ fid:=251,fn:=Tryz.f251,c:=ac Tryz.f251,ins:={ sl:=[(0, .t (.s)),(1, .t (.i .u8))] },out:=.data (.t (.i .i64)),cuts:=[] }
noncomputable def f238:FI:={ fid:=238,fn:=Tryz.f238,c:=ac Tryz.f238,ins:={ sl:=[(0, .t (.s)),(1, .t (.i .u8))] },out:=.new (.t (.i .i64)),cuts:=[] }
noncomputable def f219:FI:={ fid:=219,fn:=Tryz.f219,c:=ac Tryz.f219,ins:={ sl:=[(0, .t (.s)),(1, .t (.s))] },out:=.new (.t (.i .i64)),cuts:=[] }
noncomputable def f193:FI:={ fid:=193,fn:=Tryz.f193,c:=ac Tryz.f193,ins:={ sl:=[(0, .t (.s)),(1, .t (.s))] },out:=.new (.t (.i .i64)),cuts:=[] }
noncomputable def f139:FI:={ fid:=139,fn:=Tryz.f139,c:=ac Tryz.f139,ins:={ sl:=[(0, .t (.s)),(1, .t (.s))] },out:=.new (.t (.b)),cuts:=[] }
noncomputable def f138:FI:={ fid:=138,fn:=Tryz.f138,c:=ac Tryz.f138,ins:={ sl:=[(0, .t (.s)),(1, .dp (.s))] },out:=.new (.t (.b)),cuts:=[] }
noncomputable def f141:FI:={ fid:=141,fn:=Tryz.f141,c:=ac Tryz.f141,ins:={ sl:=[(0, .t (.b)),(1, .t (.i .i64)),(2, .t (.i .i64)),(3, .t (.i .i64))] },out:=.new (.t (.b)),cuts:=[] }
noncomputable def f142:FI:={ fid:=142,fn:=Tryz.f142,c:=ac Tryz.f142,ins:={ sl:=[(0, .t (.st .GSpan))] },out:=.new (.t (.b)),cuts:=[] }
abbrev uk:Tm:={ sl:=[(1, .k (.ptr 0 14 0 0)),(89, .t (.i .i64)),(97, .t (.b))],ob:=[.box [.t (.st .GFact)]] }
noncomputable def f90:FI:={ fid:=90,fn:=Tryz.f90,c:=ac Tryz.f90,ins:={ sl:=[(0, .t (.st .GFact))] },out:=.new (.t (.b)),cuts:=[(2007,uk)] }
noncomputable def f61:FI:={ fid:=61,fn:=Tryz.f61,c:=ac Tryz.f61,ins:={ sl:=[(0, .t (.st .GFact))] },out:=.new (.t (.b)),cuts:=[] }
abbrev Co:Tm:={ sl:=[(1, .fn 61 []),(5, .k (.row 0 14)),(8, .t (.ls (.st .GFact))),(9, .t (.i .i64)),(10, .t (.i .i64))],ob:=[.row 38 (.st .GFact)] }
noncomputable def f60:FI:={ fid:=60,fn:=Tryz.f60,c:=ac Tryz.f60,ins:={ sl:=[(0, .t (.ls (.st .GFact))),(1, .fn 61 [])] },out:=.own true 38 (.st .GFact),cuts:=[(58,Co)] }
noncomputable def f31:FI:={ fid:=31,fn:=Tryz.f31,c:=ac Tryz.f31,ins:={ sl:=[(0, .t (.ls (.st .GFact)))] },out:=.own true 38 (.st .GFact),cuts:=[] }
abbrev Bc:Tm:={ sl:=[(1, .t (.i .i64)),(6, .t (.i .i64)),(7, .t (.b)),(10, .t (.ls (.st .GFact))),(11, .t (.i .i64)),(12, .t (.i .i64))],ob:=[] }
noncomputable def f91:FI:={ fid:=91,fn:=Tryz.f91,c:=ac Tryz.f91,ins:={ sl:=[(0, .t (.ls (.st .GFact))),(1, .t (.i .i64))] },out:=.new (.tp [.t (.i .i64), .t (.b)]),cuts:=[(58,Bc)] }
noncomputable def f63:FI:={ fid:=63,fn:=Tryz.f63,c:=ac Tryz.f63,ins:={ sl:=[(0, .t (.ls (.st .GFact)))] },out:=.new (.tp [.t (.i .i64), .t (.b)]),cuts:=[] }
noncomputable def f64:FI:={ fid:=64,fn:=Tryz.f64,c:=ac Tryz.f64,ins:={ sl:=[(0, .t (.ls (.st .GFact)))] },out:=.new (.tp [.t (.i .i64), .t (.b)]),cuts:=[] }
noncomputable def f33:FI:={ fid:=33,fn:=Tryz.f33,c:=ac Tryz.f33,ins:={ sl:=[(0, .t (.ls (.st .GFact)))] },out:=.new (.t (.st .GSpan)),cuts:=[] }
noncomputable def f85:FI:={ fid:=85,fn:=Tryz.f85,c:=ac Tryz.f85,ins:={ sl:=[(0, .t (.st .GSpan))] },out:=.new (.t (.st .GSpan)),cuts:=[] }
abbrev Bo:Tm:={ sl:=[(3, .k (.ptr 0 1 0 0)),(10, .t (.ls (.st .GSpan))),(11, .t (.i .i64)),(12, .t (.i .i64))],ob:=[.box [.k (.row 1 2)], .row 30 (.st .GSpan)] }
abbrev xw:Tm:={ sl:=[(6, .k (.row 0 2)),(32, .k (.row 1 2)),(33, .t (.i .i64)),(34, .t (.i .i64))],ob:=[.row 30 (.st .GSpan), .row 30 (.st .GSpan)] }
noncomputable def f56:FI:={ fid:=56,fn:=Tryz.f56,c:=ac Tryz.f56,ins:={ sl:=[(0, .t (.ls (.st .GSpan)))] },out:=.own true 30 (.st .GSpan),cuts:=[(58,Bo),(506,xw)] }
abbrev ya:Tm:={ sl:=[(0, .k (.row 0 2)),(1, .k (.row 1 2)),(5, .k (.row 2 2)),(6, .t (.i .i64)),(7, .t (.i .i64))],ob:=[.row 30 (.st .GSpan), .row 30 (.st .GSpan), .row 30 (.st .GSpan)] }
abbrev uZ:Tm:={ sl:=[(0, .k (.row 0 2)),(1, .k (.row 1 2)),(5, .k (.row 2 2)),(6, .t (.i .i64)),(7, .t (.i .i64))],ob:=[.row 30 (.st .GSpan), .row 30 (.st .GSpan), .row 30 (.st .GSpan)] }
noncomputable def f62:FI:={ fid:=62,fn:=Tryz.f62,c:=ac Tryz.f62,ins:={ sl:=[(0, .t (.ls (.st .GSpan))),(1, .t (.ls (.st .GSpan)))] },out:=.own true 30 (.st .GSpan),cuts:=[(122,ya),(3915,uZ)] }
noncomputable def f32:FI:={ fid:=32,fn:=Tryz.f32,c:=ac Tryz.f32,ins:={ sl:=[(0, .t (.ls (.st .GSpan))),(1, .t (.st .GSpan))] },out:=.own true 30 (.st .GSpan),cuts:=[] }
abbrev xY:Tm:={ sl:=[(0, .t (.ls (.st .GFact))),(7, .k (.row 0 4)),(39, .k (.ptr 1 1 0 0))],ob:=[.row 32 (.st .GPosting), .iter (.fn 2000000000 [.k (.ptr 2 1 0 0)]), .map 66 (.st .GCompetence_route) (.ls (.st .GSpan))] }
abbrev rD:Tm:={ sl:=[(0, .t (.ls (.st .GFact))),(7, .k (.row 0 4)),(8, .k (.ptr 1 2 0 0)),(39, .k (.ptr 2 1 0 0)),(48, .k (.row 3 2)),(49, .t (.i .i64)),(50, .t (.i .i64))],ob:=[.row 32 (.st .GPosting), .box [.t (.st .GCompetence_route)], .iter (.fn 2000000000 [.k (.ptr 4 1 0 0)]), .row 30 (.st .GSpan), .map 66 (.st .GCompetence_route) (.ls (.st .GSpan))] }
noncomputable def f12:FI:={ fid:=12,fn:=Tryz.f12,c:=ac Tryz.f12,ins:={ sl:=[(0, .t (.ls (.st .GFact)))] },out:=.own true 32 (.st .GPosting),cuts:=[(250,xY),(32054,rD)],hd:=[(29,⟨{ sl:=[(0, .t (.ls (.st .GFact))),(3, .k (.fn 2000000000 [.ptr 0 1 0 0])),(14, .t (.ls (.st .GFact))),(15, .t (.i .i64)),(16, .t (.i .i64))],ob:=[.map 66 (.st .GCompetence_route) (.ls (.st .GSpan))] },{ sl:=[(0, .t (.ls (.st .GFact))),(3, .k (.fn 2000000000 [.ptr 0 1 0 0]))],ob:=[.map 66 (.st .GCompetence_route) (.ls (.st .GSpan))] },fun x=>nE x⟩)] }
abbrev A0:Tm:={ sl:=[(0, .t (.ls (.st .GFact))),(3, .k (.row 0 14)),(4, .t (.i .i64))],ob:=[.row 38 (.st .GFact)] }
noncomputable def f38:FI:={ fid:=38,fn:=Tryz.f38,c:=ac Tryz.f38,ins:={ sl:=[(0, .t (.ls (.st .GFact)))] },out:=.own true 38 (.st .GFact),cuts:=[(58,A0)] }
abbrev uq:Tm:={ sl:=[(1, .t (.i .i64)),(6, .k (.row 0 14)),(7, .t (.i .i64)),(8, .t (.b)),(9, .t (.i .i64))],ob:=[.row 38 (.st .GFact)] }
noncomputable def f105:FI:={ fid:=105,fn:=Tryz.f105,c:=ac Tryz.f105,ins:={ sl:=[(0, .t (.ls (.st .GFact))),(1, .t (.i .i64))] },out:=.new (.tp [.t (.i .i64), .t (.b)]),cuts:=[(122,uq)] }
noncomputable def f69:FI:={ fid:=69,fn:=Tryz.f69,c:=ac Tryz.f69,ins:={ sl:=[(0, .t (.ls (.st .GFact)))] },out:=.new (.tp [.t (.i .i64), .t (.b)]),cuts:=[] }
noncomputable def f70:FI:={ fid:=70,fn:=Tryz.f70,c:=ac Tryz.f70,ins:={ sl:=[(0, .t (.ls (.st .GFact)))] },out:=.new (.tp [.t (.i .i64), .t (.b)]),cuts:=[] }
noncomputable def f40:FI:={ fid:=40,fn:=Tryz.f40,c:=ac Tryz.f40,ins:={ sl:=[(0, .t (.ls (.st .GFact)))] },out:=.new (.t (.st .GSpan)),cuts:=[] }
noncomputable def f148:FI:={ fid:=148,fn:=Tryz.f148,c:=ac Tryz.f148,ins:={ sl:=[(0, .t (.st .GSpan))] },out:=.new (.tp [.t (.st .GSpan), .t (.b)]),cuts:=[] }
abbrev Cc:Tm:={ sl:=[(0, .t (.ls (.i .i64))),(1, .t (.i .i64)),(5, .t (.i .i64))],ob:=[] }
noncomputable def f55:FI:={ fid:=55,fn:=Tryz.f55,c:=ac Tryz.f55,ins:={ sl:=[(0, .t (.ls (.i .i64))),(1, .t (.i .i64))] },out:=.data (.t (.ls (.i .i64))),cuts:=[(28,Cc)] }
abbrev yf:Tm:={ sl:=[(0, .t (.ls (.ls (.st .GSpan)))),(3, .t (.ls (.i .i64))),(4, .t (.i .i64))],ob:=[] }
abbrev sJ:Tm:={ sl:=[(0, .t (.ls (.ls (.st .GSpan)))),(3, .t (.ls (.i .i64))),(4, .t (.i .i64)),(5, .t (.i .i64))],ob:=[] }
noncomputable def f102:FI:={ fid:=102,fn:=Tryz.f102,c:=ac Tryz.f102,ins:={ sl:=[(0, .t (.ls (.ls (.st .GSpan))))] },out:=.data (.t (.ls (.i .i64))),cuts:=[(58,yf),(3730,sJ)] }
noncomputable def f83:FI:={ fid:=83,fn:=Tryz.f83,c:=ac Tryz.f83,ins:={ sl:=[(0, .t (.i .i64))] },out:=.new (.t (.b)),cuts:=[] }
abbrev xc:Tm:={ sl:=[(0, .t (.ls (.st .GSpan))),(1, .t (.i .i64)),(5, .t (.i .i64))],ob:=[] }
noncomputable def f103:FI:={ fid:=103,fn:=Tryz.f103,c:=ac Tryz.f103,ins:={ sl:=[(0, .t (.ls (.st .GSpan))),(1, .t (.i .i64))] },out:=.new (.t (.b)),cuts:=[(26,xc)] }
noncomputable def f104:FI:={ fid:=104,fn:=Tryz.f104,c:=ac Tryz.f104,ins:={ sl:=[(0, .t (.ls (.st .GSpan))),(1, .t (.st .GSpan))] },out:=.own true 30 (.st .GSpan),cuts:=[] }
abbrev wX:Tm:={ sl:=[(0, .t (.ls (.st .GSpan))),(1, .t (.ls (.st .GSpan))),(2, .t (.i .i64)),(7, .t (.ls (.i .i64))),(8, .k (.row 0 2)),(9, .t (.i .i64))],ob:=[.row 30 (.st .GSpan)] }
noncomputable def f68:FI:={ fid:=68,fn:=Tryz.f68,c:=ac Tryz.f68,ins:={ sl:=[(0, .t (.ls (.st .GSpan))),(1, .t (.ls (.st .GSpan))),(2, .t (.i .i64))] },out:=.own true 30 (.st .GSpan),cuts:=[(122,wX)] }
noncomputable def f39:FI:={ fid:=39,fn:=Tryz.f39,c:=ac Tryz.f39,ins:={ sl:=[(0, .t (.ls (.st .GSpan))),(1, .t (.st .GSpan))] },out:=.own true 30 (.st .GSpan),cuts:=[] }
abbrev BY:Tm:={ sl:=[(0, .t (.ls (.st .GPosting))),(3, .k (.ptr 0 4 0 0)),(5, .t (.i .i64))],ob:=[.box [.t (.st .GPosting)]] }
noncomputable def f41:FI:={ fid:=41,fn:=Tryz.f41,c:=ac Tryz.f41,ins:={ sl:=[(0, .t (.ls (.st .GPosting))),(1, .t (.st .GPosting))] },out:=.own true 32 (.st .GPosting),cuts:=[(28,BY)] }
abbrev xj:Tm:={ sl:=[(0, .t (.ls (.st .GFact))),(3, .k (.row 0 14)),(4, .k (.row 1 4)),(5, .t (.i .i64))],ob:=[.row 38 (.st .GFact), .row 32 (.st .GPosting)] }
abbrev ui:Tm:={ sl:=[(0, .t (.ls (.st .GFact))),(3, .k (.row 0 14)),(4, .k (.row 1 4)),(5, .t (.i .i64)),(6, .t (.i .i64))],ob:=[.row 38 (.st .GFact), .row 32 (.st .GPosting)] }
abbrev nZ:Tm:={ sl:=[(0, .t (.ls (.st .GFact))),(3, .k (.row 0 14)),(4, .k (.row 1 4)),(5, .t (.i .i64)),(6, .t (.i .i64)),(7, .k (.row 2 2)),(8, .t (.i .i64))],ob:=[.row 38 (.st .GFact), .row 32 (.st .GPosting), .row 30 (.st .GSpan)] }
abbrev oo:Tm:={ sl:=[(0, .t (.ls (.st .GFact))),(3, .k (.row 0 14)),(4, .k (.row 1 4)),(5, .t (.i .i64)),(6, .t (.i .i64)),(7, .k (.row 2 2)),(9, .t (.i .i64))],ob:=[.row 38 (.st .GFact), .row 32 (.st .GPosting), .row 30 (.st .GSpan)] }
noncomputable def f13:FI:={ fid:=13,fn:=Tryz.f13,c:=ac Tryz.f13,ins:={ sl:=[(0, .t (.ls (.st .GFact)))] },out:=.own true 32 (.st .GPosting),cuts:=[(122,xj),(7826,ui),(2003530,nZ),(4007070,oo)] }
noncomputable def f109:FI:={ fid:=109,fn:=Tryz.f109,c:=ac Tryz.f109,ins:={ sl:=[(0, .t (.i .i64))] },out:=.new (.t (.b)),cuts:=[] }
noncomputable def f149:FI:={ fid:=149,fn:=Tryz.f149,c:=ac Tryz.f149,ins:={ sl:=[(0, .t (.i .i64)),(1, .t (.i .i64))] },out:=.new (.t (.b)),cuts:=[] }
abbrev xF:Tm:={ sl:=[(1, .k (.ptr 0 5 0 0)),(28, .t (.ls (.i .i64))),(29, .t (.i .i64)),(30, .t (.i .i64))],ob:=[.box [.t (.st .GRules)]] }
noncomputable def f108:FI:={ fid:=108,fn:=Tryz.f108,c:=ac Tryz.f108,ins:={ sl:=[(0, .t (.st .GRules))] },out:=.new (.t (.b)),cuts:=[(58,xF)] }
abbrev w6:Tm:={ sl:=[(0, .t (.ls (.st .GRules))),(18, .t (.ls (.st .GRules))),(19, .t (.i .i64)),(20, .t (.i .i64))],ob:=[] }
noncomputable def f73:FI:={ fid:=73,fn:=Tryz.f73,c:=ac Tryz.f73,ins:={ sl:=[(0, .t (.ls (.st .GRules)))] },out:=.new (.t (.i .i64)),cuts:=[(122,w6)] }
noncomputable def f48:FI:={ fid:=48,fn:=Tryz.f48,c:=ac Tryz.f48,ins:={ sl:=[(0, .t (.ls (.st .GFact))),(1, .t (.ls (.st .GRules)))] },out:=.data (.tp [.t (.st .GCompetence_life), .t (.b)]),cuts:=[] }
noncomputable def f74:FI:={ fid:=74,fn:=Tryz.f74,c:=ac Tryz.f74,ins:={ sl:=[(0, .t (.ls (.st .GRules))),(1, .t (.i .i64))] },out:=.data (.tp [.t (.st .GRules), .t (.b)]),cuts:=[] }
noncomputable def f75:FI:={ fid:=75,fn:=Tryz.f75,c:=ac Tryz.f75,ins:={ sl:=[(0, .t (.st .GSpan)),(1, .t (.i .i64))] },out:=.new (.t (.b)),cuts:=[] }
abbrev B0:Tm:={ sl:=[(1, .t (.i .i64)),(2, .t (.i .i64)),(11, .t (.ls (.st .GPosting))),(12, .t (.i .i64)),(13, .t (.i .i64))],ob:=[] }
noncomputable def f76:FI:={ fid:=76,fn:=Tryz.f76,c:=ac Tryz.f76,ins:={ sl:=[(0, .t (.st .GCompetence_life)),(1, .t (.i .i64)),(2, .t (.i .i64))] },out:=.new (.tp [.t (.i .i64), .t (.b)]),cuts:=[(26,B0)] }
abbrev yl:Tm:={ sl:=[(0, .t (.ls (.i .i64))),(1, .t (.i .i64)),(7, .t (.i .i64)),(8, .t (.i .i64))],ob:=[] }
noncomputable def f153:FI:={ fid:=153,fn:=Tryz.f153,c:=ac Tryz.f153,ins:={ sl:=[(0, .t (.ls (.i .i64))),(1, .t (.i .i64))] },out:=.new (.t (.i .i64)),cuts:=[(26,yl)] }
noncomputable def f116:FI:={ fid:=116,fn:=Tryz.f116,c:=ac Tryz.f116,ins:={ sl:=[(0, .t (.ls (.i .i64))),(1, .t (.i .i64))] },out:=.new (.t (.b)),cuts:=[] }
abbrev xK:Tm:={ sl:=[(1, .t (.i .i64)),(2, .t (.ls (.i .i64))),(7, .k (.row 0 14)),(11, .t (.ls (.st .GFact))),(12, .t (.i .i64)),(13, .t (.i .i64))],ob:=[.row 38 (.st .GFact)] }
noncomputable def f112:FI:={ fid:=112,fn:=Tryz.f112,c:=ac Tryz.f112,ins:={ sl:=[(0, .t (.st .GCompetence_life)),(1, .t (.i .i64)),(2, .t (.ls (.i .i64)))] },out:=.own true 38 (.st .GFact),cuts:=[(58,xK)] }
abbrev Ar:Tm:={ sl:=[(6, .k (.ptr 0 14 0 0)),(7, .t (.b)),(14, .k (.row 1 14)),(15, .t (.i .i64)),(16, .t (.i .i64))],ob:=[.box [.t (.st .GFact)], .row 38 (.st .GFact)] }
noncomputable def f77:FI:={ fid:=77,fn:=Tryz.f77,c:=ac Tryz.f77,ins:={ sl:=[(0, .t (.st .GCompetence_life)),(1, .t (.i .i64))] },out:=.new (.tp [.t (.i .i64), .t (.b)]),cuts:=[(58,Ar)] }
noncomputable def f155:FI:={ fid:=155,fn:=Tryz.f155,c:=ac Tryz.f155,ins:={ sl:=[(0, .t (.st .GSpan)),(1, .dp (.i .i64))] },out:=.new (.t (.b)),cuts:=[] }
abbrev xQ:Tm:={ sl:=[(0, .t (.ls (.st .GSpan))),(1, .fn 155 [.dp (.i .i64)]),(7, .t (.i .i64)),(8, .t (.i .i64))],ob:=[] }
noncomputable def f196:FI:={ fid:=196,fn:=Tryz.f196,c:=ac Tryz.f196,ins:={ sl:=[(0, .t (.ls (.st .GSpan))),(1, .fn 155 [.dp (.i .i64)])] },out:=.new (.t (.i .i64)),cuts:=[(26,xQ)] }
noncomputable def f154:FI:={ fid:=154,fn:=Tryz.f154,c:=ac Tryz.f154,ins:={ sl:=[(0, .t (.ls (.st .GSpan))),(1, .fn 155 [.dp (.i .i64)])] },out:=.new (.t (.b)),cuts:=[] }
noncomputable def f119:FI:={ fid:=119,fn:=Tryz.f119,c:=ac Tryz.f119,ins:={ sl:=[(0, .t (.ls (.st .GSpan))),(1, .t (.i .i64))] },out:=.new (.t (.b)),cuts:=[] }
abbrev xD:Tm:={ sl:=[(1, .t (.i .i64)),(6, .k (.ptr 0 14 0 0)),(7, .t (.b)),(22, .t (.ls (.st .GFact))),(23, .t (.i .i64)),(24, .t (.i .i64))],ob:=[.box [.t (.st .GFact)]] }
noncomputable def f80:FI:={ fid:=80,fn:=Tryz.f80,c:=ac Tryz.f80,ins:={ sl:=[(0, .t (.ls (.st .GFact))),(1, .t (.i .i64))] },out:=.new (.tp [.t (.i .i64), .t (.b)]),cuts:=[(122,xD)] }
abbrev yj:Tm:={ sl:=[(3, .k (.row 0 1)),(6, .t (.ls (.st .GFact))),(7, .t (.i .i64)),(8, .t (.i .i64))],ob:=[.row 3 (.i .i64)] }
noncomputable def f115:FI:={ fid:=115,fn:=Tryz.f115,c:=ac Tryz.f115,ins:={ sl:=[(0, .t (.ls (.st .GFact)))] },out:=.own true 3 (.i .i64),cuts:=[(58,yj)] }
abbrev Ag:Tm:={ sl:=[(1, .t (.i .i64)),(2, .t (.i .i64)),(3, .k (.ptr 0 5 0 0)),(8, .fn 2000000000 [.k (.ptr 1 1 0 0)]),(9, .t (.i .i64)),(25, .k (.row 2 14)),(26, .t (.i .i64)),(27, .t (.i .i64))],ob:=[.box [.t (.st .GCompetence_life)], .map 153 (.i .i64) (.i .i64), .row 38 (.st .GFact)] }
abbrev yY:Tm:={ sl:=[(8, .fn 2000000000 [.k (.ptr 0 1 0 0)]),(18, .t (.i .i64)),(117, .k (.row 1 1)),(118, .t (.i .i64)),(119, .t (.i .i64))],ob:=[.map 153 (.i .i64) (.i .i64), .row 3 (.i .i64)] }
noncomputable def f78:FI:={ fid:=78,fn:=Tryz.f78,c:=ac Tryz.f78,ins:={ sl:=[(0, .t (.st .GCompetence_life)),(1, .t (.i .i64)),(2, .t (.i .i64))] },out:=.new (.tp [.t (.i .i64), .t (.b)]),cuts:=[(58,Ag),(65530,yY)] }
noncomputable def f67:FI:={ fid:=67,fn:=Tryz.f67,c:=ac Tryz.f67,ins:={ sl:=[(0, .t (.i .i64))] },out:=.new (.t (.b)),cuts:=[] }
noncomputable def f37:FI:={ fid:=37,fn:=Tryz.f37,c:=ac Tryz.f37,ins:={ sl:=[(0, .t (.i .i64)),(1, .t (.i .i64))] },out:=.new (.t (.i .i64)),cuts:=[] }
noncomputable def f118:FI:={ fid:=118,fn:=Tryz.f118,c:=ac Tryz.f118,ins:={ sl:=[(0, .t (.st .GFact)),(1, .t (.st .GFact))] },out:=.new (.t (.i .i64)),cuts:=[] }
abbrev Hq:Tm:={ sl:=[(0, .t (.ls (.st .GFact))),(1, .fn 118 []),(4, .k (.ptr 0 14 0 0)),(5, .k (.ptr 1 14 0 0)),(6, .t (.i .i64))],ob:=[.box [.t (.st .GFact)], .box [.t (.st .GFact)]] }
noncomputable def f117:FI:={ fid:=117,fn:=Tryz.f117,c:=ac Tryz.f117,ins:={ sl:=[(0, .t (.ls (.st .GFact))),(1, .fn 118 [])] },out:=.new (.t (.st .GFact)),cuts:=[(122,Hq)] }
noncomputable def f79:FI:={ fid:=79,fn:=Tryz.f79,c:=ac Tryz.f79,ins:={ sl:=[(0, .t (.st .GCompetence_life)),(1, .t (.i .i64))] },out:=.new (.tp [.t (.i .i64), .t (.b)]),cuts:=[] }
noncomputable def f49:FI:={ fid:=49,fn:=Tryz.f49,c:=ac Tryz.f49,ins:={ sl:=[(0, .t (.st .GCompetence_life)),(1, .t (.i .i64))] },out:=.new (.tp [.t (.i .i64), .t (.i .i64)]),cuts:=[] }
noncomputable def f18:FI:={ fid:=18,fn:=Tryz.f18,c:=ac Tryz.f18,ins:={ sl:=[(0, .t (.ls (.st .GFact))),(1, .t (.ls (.st .GRules))),(2, .t (.i .i64))] },out:=.new (.tp [.t (.i .i64), .t (.i .i64)]),cuts:=[] }
noncomputable def f14:FI:={ fid:=14,fn:=Tryz.f14,c:=ac Tryz.f14,ins:={ sl:=[] },out:=.new (.t (.b)),cuts:=[] }
abbrev Bn:Tm:={ sl:=[(8, .k (.row 0 4)),(9, .k (.row 1 4)),(10, .t (.i .i64))],ob:=[.row 32 (.st .GPosting), .row 32 (.st .GPosting)] }
noncomputable def f3:FI:={ fid:=3,fn:=Tryz.f3,c:=ac Tryz.f3,ins:={ sl:=[(0, .t (.ls (.st .GPensionhand_Fact))),(1, .t (.ls (.i .i64))),(2, .t (.b))] },out:=.new (.t (.b)),cuts:=[(250,Bn)] }
abbrev Ke:Tm:={ sl:=[(0, .t (.ls (.st .GPensionhand_Fact))),(2, .t (.i .i64)),(3, .t (.i .i64)),(4, .t (.i .i64)),(5, .t (.i .i64)),(13, .k (.row 0 14)),(14, .t (.i .i64))],ob:=[.row 38 (.st .GFact)] }
noncomputable def f4:FI:={ fid:=4,fn:=Tryz.f4,c:=ac Tryz.f4,ins:={ sl:=[(0, .t (.ls (.st .GPensionhand_Fact))),(1, .t (.ls (.i .i64))),(2, .t (.i .i64)),(3, .t (.i .i64)),(4, .t (.i .i64)),(5, .t (.i .i64))] },out:=.new (.t (.b)),cuts:=[(250,Ke)] }
abbrev Ip:Tm:={ sl:=[(0, .t (.i .i64)),(3, .t (.s))],ob:=[] }
noncomputable def f128:FI:={ fid:=128,fn:=Tryz.f128,c:=ac Tryz.f128,ins:={ sl:=[(0, .t (.i .i64))] },out:=.new (.t (.s)),cuts:=[(28,Ip)] }
noncomputable def f166:FI:={ fid:=166,fn:=Tryz.f166,c:=ac Tryz.f166,ins:={ sl:=[(0, .t (.i .i64))] },out:=.new (.t (.s)),cuts:=[] }
abbrev IB:Tm:={ sl:=[(1, .t (.ls (.i .i64))),(2, .t (.i .i64)),(7, .t (.s)),(8, .t (.s))],ob:=[] }
abbrev Hv:Tm:={ sl:=[(1, .t (.ls (.i .i64))),(2, .t (.i .i64)),(7, .t (.s)),(8, .t (.s))],ob:=[] }
abbrev GB:Tm:={ sl:=[(1, .t (.ls (.i .i64))),(2, .t (.i .i64)),(7, .t (.s)),(8, .t (.s))],ob:=[] }
abbrev Fw:Tm:={ sl:=[(1, .t (.ls (.i .i64))),(2, .t (.i .i64)),(8, .t (.s))],ob:=[] }
abbrev ES:Tm:={ sl:=[(1, .t (.ls (.i .i64))),(2, .t (.i .i64)),(8, .t (.s))],ob:=[] }
noncomputable def f129:FI:={ fid:=129,fn:=Tryz.f129,c:=ac Tryz.f129,ins:={ sl:=[(0, .t (.s)),(1, .t (.ls (.i .i64))),(2, .t (.i .i64))] },out:=.new (.t (.s)),cuts:=[(31,IB),(127,Hv),(255,GB),(8191,Fw),(65535,ES)] }
abbrev J7:Tm:={ sl:=[(0, .t (.i .i64)),(1, .t (.ls (.i .i64))),(6, .t (.s))],ob:=[] }
noncomputable def f82:FI:={ fid:=82,fn:=Tryz.f82,c:=ac Tryz.f82,ins:={ sl:=[(0, .t (.i .i64)),(1, .t (.ls (.i .i64)))] },out:=.new (.t (.s)),cuts:=[(31,J7)] }
abbrev I9:Tm:={ sl:=[(0, .t (.s)),(1, .t (.i .i64)),(5, .t (.b))],ob:=[] }
noncomputable def f220:FI:={ fid:=220,fn:=Tryz.f220,c:=ac Tryz.f220,ins:={ sl:=[(0, .t (.s)),(1, .t (.i .i64))] },out:=.new (.t (.i .i64)),cuts:=[(28,I9)] }
noncomputable def f221:FI:={ fid:=221,fn:=Tryz.f221,c:=ac Tryz.f221,ins:={ sl:=[(0, .t (.i .u8))] },out:=.new (.t (.b)),cuts:=[] }
noncomputable def f223:FI:={ fid:=223,fn:=Tryz.f223,c:=ac Tryz.f223,ins:={ sl:=[(0, .t (.i .u8))] },out:=.new (.t (.b)),cuts:=[] }
abbrev Ir:Tm:={ sl:=[(0, .t (.s)),(1, .t (.i .i64)),(2, .t (.b)),(7, .t (.i .i64))],ob:=[] }
noncomputable def f222:FI:={ fid:=222,fn:=Tryz.f222,c:=ac Tryz.f222,ins:={ sl:=[(0, .t (.s)),(1, .t (.i .i64)),(2, .t (.b))] },out:=.new (.t (.i .i64)),cuts:=[(28,Ir)] }
abbrev IO:Tm:={ sl:=[(0, .t (.s)),(6, .t (.i .i64))],ob:=[] }
abbrev Gv:Tm:={ sl:=[(0, .t (.s)),(6, .t (.i .i64)),(8, .t (.i .i64)),(9, .t (.i .i64))],ob:=[] }
abbrev GG:Tm:={ sl:=[(6, .t (.i .i64)),(10, .t (.s)),(11, .t (.s))],ob:=[] }
abbrev Fs:Tm:={ sl:=[(6, .t (.i .i64)),(10, .t (.s)),(11, .t (.s)),(12, .t (.i .i64))],ob:=[] }
noncomputable def f200:FI:={ fid:=200,fn:=Tryz.f200,c:=ac Tryz.f200,ins:={ sl:=[(0, .t (.s))] },out:=.new (.tp [.t (.s), .t (.s), .t (.i .i64), .t (.b)]),cuts:=[(15,IO),(250,Gv),(255,GG),(2042,Fs)] }
abbrev IC:Tm:={ sl:=[(0, .t (.s)),(4, .t (.i .i64)),(5, .t (.i .i64))],ob:=[] }
noncomputable def f227:FI:={ fid:=227,fn:=Tryz.f227,c:=ac Tryz.f227,ins:={ sl:=[(0, .t (.s))] },out:=.new (.tp [.t (.i .i64), .t (.b)]),cuts:=[(58,IC)] }
noncomputable def f254:FI:={ fid:=254,fn:=Tryz.f254,c:=ac Tryz.f254,ins:={ sl:=[(0, .t (.i .i64))] },out:=.new (.t (.b)),cuts:=[] }
noncomputable def f244:FI:={ fid:=244,fn:=Tryz.f244,c:=ac Tryz.f244,ins:={ sl:=[(0, .t (.i .i64)),(1, .t (.i .i64))] },out:=.new (.t (.i .i64)),cuts:=[] }
abbrev IK:Tm:={ sl:=[(0, .t (.i .i64)),(3, .t (.i .i64)),(4, .t (.i .i64))],ob:=[] }
noncomputable def f245:FI:={ fid:=245,fn:=Tryz.f245,c:=ac Tryz.f245,ins:={ sl:=[(0, .t (.i .i64))] },out:=.new (.t (.i .i64)),cuts:=[(58,IK)] }
noncomputable def f228:FI:={ fid:=228,fn:=Tryz.f228,c:=ac Tryz.f228,ins:={ sl:=[(0, .t (.i .i64)),(1, .t (.i .i64)),(2, .t (.i .i64))] },out:=.new (.tp [.t (.i .i64), .t (.b)]),cuts:=[] }
noncomputable def f202:FI:={ fid:=202,fn:=Tryz.f202,c:=ac Tryz.f202,ins:={ sl:=[(0, .t (.s))] },out:=.new (.tp [.t (.i .i64), .t (.b)]),cuts:=[] }
abbrev Ju:Tm:={ sl:=[(0, .t (.s)),(1, .t (.i .i64))],ob:=[] }
abbrev HT:Tm:={ sl:=[(29, .t (.b))],ob:=[] }
noncomputable def f224:FI:={ fid:=224,fn:=Tryz.f224,c:=ac Tryz.f224,ins:={ sl:=[(0, .t (.s)),(1, .t (.i .i64))] },out:=.new (.t (.i .i64)),cuts:=[(7,Ju),(117,HT)] }
abbrev HL:Tm:={ sl:=[(0, .t (.s)),(1, .t (.i .i64)),(4, .k (.ptr 0 3 0 0)),(7, .t (.i .i64)),(8, .t (.i .i64)),(9, .t (.b))],ob:=[.box [.t (.st .GToken)]] }
noncomputable def f197:FI:={ fid:=197,fn:=Tryz.f197,c:=ac Tryz.f197,ins:={ sl:=[(0, .t (.s)),(1, .t (.i .i64))] },out:=.new (.tp [.t (.st .GToken), .t (.i .i64), .t (.i .i64)]),cuts:=[(127,HL)] }
abbrev Ig:Tm:={ sl:=[(0, .t (.s)),(5, .k (.row 0 3)),(6, .t (.i .i64))],ob:=[.row 216 (.st .GToken)] }
noncomputable def f156:FI:={ fid:=156,fn:=Tryz.f156,c:=ac Tryz.f156,ins:={ sl:=[(0, .t (.s))] },out:=.new (.tp [.t (.ls (.st .GToken)), .t (.i .i64), .t (.i .i64)]),cuts:=[(62,Ig)] }
noncomputable def f120:FI:={ fid:=120,fn:=Tryz.f120,c:=ac Tryz.f120,ins:={ sl:=[(0, .t (.s))],ob:=[] },out:=.gen2 ({ sl:=[(2000000, .tp [.tp [.k (.c (.lit (.pointer none))), .t (.i .i64), .t (.i .i64)]])],ob:=[] }) ({ sl:=[(2000000, .tp [.tp [.k (.ptr 0 4 0 0), .t (.i .i64), .t (.i .i64)]])],ob:=[.box [.t (.st .GPensionref5_reader)]] }),cuts:=[] }
noncomputable def f161:FI:={ fid:=161,fn:=Tryz.f161,c:=ac Tryz.f161,ins:={ sl:=[(0, .dp (.st .GPensionref5_reader)),(1, .t (.s))] },out:=.new (.t (.b)),cuts:=[] }
noncomputable def f124:FI:={ fid:=124,fn:=Tryz.f124,c:=ac Tryz.f124,ins:={ sl:=[(0, .k (.ptr 0 4 0 0)),(1, .t (.s)),(1000000, .k (.ptr 0 4 0 0))],ob:=[.box [.t (.st .GPensionref5_reader)]] },out:=.gen ({ sl:=[(1000000, .k (.ptr 0 4 0 0)),(2000000, .tp [.t (.b)])],ob:=[.box [.t (.st .GPensionref5_reader)]] }),cuts:=[] }
noncomputable def f157:FI:={ fid:=157,fn:=Tryz.f157,c:=ac Tryz.f157,ins:={ sl:=[(0, .k (.ptr 0 4 0 0)),(1000000, .k (.ptr 0 4 0 0))],ob:=[.box [.t (.st .GPensionref5_reader)]] },out:=.gen ({ sl:=[(1000000, .k (.ptr 0 4 0 0)),(2000000, .tp [.tp []])],ob:=[.box [.t (.st .GPensionref5_reader)]] }),cuts:=[] }
noncomputable def f121:FI:={ fid:=121,fn:=Tryz.f121,c:=ac Tryz.f121,ins:={ sl:=[(0, .k (.ptr 0 4 0 0)),(1, .t (.s)),(1000000, .k (.ptr 0 4 0 0))],ob:=[.box [.t (.st .GPensionref5_reader)]] },out:=.gen ({ sl:=[(1000000, .k (.ptr 0 4 0 0)),(2000000, .tp [.tp []])],ob:=[.box [.t (.st .GPensionref5_reader)]] }),cuts:=[] }
noncomputable def f158:FI:={ fid:=158,fn:=Tryz.f158,c:=ac Tryz.f158,ins:={ sl:=[(0, .dp (.st .GPensionref5_reader)),(1, .t (.i .i64))] },out:=.new (.t (.b)),cuts:=[] }
abbrev I5:Tm:={ sl:=[(0, .t (.s)),(3, .t (.i .i64))],ob:=[] }
noncomputable def f198:FI:={ fid:=198,fn:=Tryz.f198,c:=ac Tryz.f198,ins:={ sl:=[(0, .t (.s))] },out:=.new (.t (.b)),cuts:=[(26,I5)] }
abbrev IV:Tm:={ sl:=[(4, .t (.b))],ob:=[] }
noncomputable def f199:FI:={ fid:=199,fn:=Tryz.f199,c:=ac Tryz.f199,ins:={ sl:=[(0, .t (.s))] },out:=.new (.t (.b)),cuts:=[(53,IV)] }
noncomputable def f159:FI:={ fid:=159,fn:=Tryz.f159,c:=ac Tryz.f159,ins:={ sl:=[(0, .t (.s))] },out:=.new (.t (.b)),cuts:=[] }
noncomputable def f122:FI:={ fid:=122,fn:=Tryz.f122,c:=ac Tryz.f122,ins:={ sl:=[(0, .k (.ptr 0 4 0 0)),(1000000, .k (.ptr 0 4 0 0))],ob:=[.box [.t (.st .GPensionref5_reader)]] },out:=.gen ({ sl:=[(1000000, .k (.ptr 0 4 0 0)),(2000000, .tp [.t (.s)])],ob:=[.box [.t (.st .GPensionref5_reader)]] }),cuts:=[] }
noncomputable def f226:FI:={ fid:=226,fn:=Tryz.f226,c:=ac Tryz.f226,ins:={ sl:=[(0, .t (.i .i64))] },out:=.new (.t (.i .u64)),cuts:=[] }
abbrev JP:Tm:={ sl:=[(0, .t (.i .u64)),(2, .t (.i .i64))],ob:=[] }
abbrev Im:Tm:={ sl:=[(0, .t (.i .u64)),(2, .t (.i .i64))],ob:=[] }
noncomputable def f101:FI:={ fid:=101,fn:=Tryz.f101,c:=ac Tryz.f101,ins:={ sl:=[(0, .t (.i .u64))] },out:=.new (.t (.i .i64)),cuts:=[(7,JP),(15,Im)] }
noncomputable def f255:FI:={ fid:=255,fn:=Tryz.f255,c:=ac Tryz.f255,ins:={ sl:=[(0, .t (.i .u64))] },out:=.new (.t (.i .i64)),cuts:=[] }
abbrev JK:Tm:={ sl:=[(0, .t (.i .u64)),(1, .t (.i .u64)),(2, .t (.i .u64))],ob:=[] }
abbrev Ie:Tm:={ sl:=[(0, .t (.i .u64)),(1, .t (.i .u64)),(2, .t (.i .u64))],ob:=[] }
abbrev Ef:Tm:={ sl:=[(2, .t (.i .u64)),(8, .t (.i .u64)),(9, .t (.i .u64)),(10, .t (.i .u64)),(11, .t (.i .u64)),(13, .t (.i .u64)),(14, .t (.i .u64)),(15, .t (.i .u64))],ob:=[] }
abbrev Cx:Tm:={ sl:=[(2, .t (.i .u64)),(8, .t (.i .u64)),(9, .t (.i .u64)),(10, .t (.i .u64)),(11, .t (.i .u64)),(13, .t (.i .u64)),(14, .t (.i .u64)),(15, .t (.i .u64)),(16, .t (.i .u64))],ob:=[] }
abbrev Cl:Tm:={ sl:=[(2, .t (.i .u64)),(8, .t (.i .u64)),(14, .t (.i .u64)),(15, .t (.i .u64)),(17, .t (.i .u64)),(18, .t (.i .u64))],ob:=[] }
abbrev Ak:Tm:={ sl:=[(2, .t (.i .u64)),(8, .t (.i .u64)),(9, .t (.i .u64)),(10, .t (.i .u64)),(14, .t (.i .u64)),(15, .t (.i .u64)),(16, .t (.i .u64)),(17, .t (.i .u64)),(18, .t (.i .u64))],ob:=[] }
noncomputable def f253:FI:={ fid:=253,fn:=Tryz.f253,c:=ac Tryz.f253,ins:={ sl:=[(0, .t (.i .u64)),(1, .t (.i .u64)),(2, .t (.i .u64))] },out:=.new (.tp [.t (.i .u64), .t (.i .u64)]),cuts:=[(7,JK),(15,Ie),(65535,Ef),(131068,Cx),(1048575,Cl),(2097148,Ak)] }
noncomputable def f242:FI:={ fid:=242,fn:=Tryz.f242,c:=ac Tryz.f242,ins:={ sl:=[(0, .t (.st .GPensionref1_wide)),(1, .t (.i .u64))] },out:=.new (.tp [.t (.st .GPensionref1_wide), .t (.i .u64)]),cuts:=[] }
abbrev I6:Tm:={ sl:=[(0, .t (.i .u64)),(1, .t (.i .u64))],ob:=[] }
noncomputable def f243:FI:={ fid:=243,fn:=Tryz.f243,c:=ac Tryz.f243,ins:={ sl:=[(0, .t (.i .u64)),(1, .t (.i .u64))] },out:=.new (.t (.i .u64)),cuts:=[(12,I6)] }
noncomputable def f225:FI:={ fid:=225,fn:=Tryz.f225,c:=ac Tryz.f225,ins:={ sl:=[(0, .t (.b)),(1, .t (.st .GPensionref1_wide)),(2, .t (.i .u64))] },out:=.new (.tp [.t (.st .GFraction), .t (.i .i64)]),cuts:=[] }
noncomputable def f201:FI:={ fid:=201,fn:=Tryz.f201,c:=ac Tryz.f201,ins:={ sl:=[(0, .t (.i .i64)),(1, .t (.i .i64))] },out:=.new (.tp [.t (.st .GFraction), .t (.i .i64)]),cuts:=[] }
abbrev HB:Tm:={ sl:=[(2, .k (.ptr 0 2 0 0)),(5, .t (.s)),(6, .t (.s)),(7, .t (.i .i64)),(9, .t (.i .i64)),(10, .t (.i .i64)),(11, .t (.i .i64))],ob:=[.box [.t (.st .GFraction)]] }
noncomputable def f160:FI:={ fid:=160,fn:=Tryz.f160,c:=ac Tryz.f160,ins:={ sl:=[(0, .t (.s))] },out:=.new (.tp [.t (.st .GFraction), .t (.i .i64), .t (.b)]),cuts:=[(250,HB)] }
noncomputable def f123:FI:={ fid:=123,fn:=Tryz.f123,c:=ac Tryz.f123,ins:={ sl:=[(0, .k (.ptr 0 4 0 0)),(1, .t (.i .i64)),(2, .t (.i .i64)),(1000000, .k (.ptr 0 4 0 0))],ob:=[.box [.t (.st .GPensionref5_reader)]] },out:=.gen ({ sl:=[(1000000, .k (.ptr 0 4 0 0)),(2000000, .tp [.t (.i .i64)])],ob:=[.box [.t (.st .GPensionref5_reader)]] }),cuts:=[] }
noncomputable def f162:FI:={ fid:=162,fn:=Tryz.f162,c:=ac Tryz.f162,ins:={ sl:=[(0, .t (.s))] },out:=.new (.t (.i .i64)),cuts:=[] }
noncomputable def f203:FI:={ fid:=203,fn:=Tryz.f203,c:=ac Tryz.f203,ins:={ sl:=[(0, .t (.s))] },out:=.new (.t (.i .i64)),cuts:=[] }
noncomputable def f204:FI:={ fid:=204,fn:=Tryz.f204,c:=ac Tryz.f204,ins:={ sl:=[(0, .t (.s))] },out:=.new (.t (.i .i64)),cuts:=[] }
noncomputable def f205:FI:={ fid:=205,fn:=Tryz.f205,c:=ac Tryz.f205,ins:={ sl:=[(0, .t (.s))] },out:=.new (.t (.i .i64)),cuts:=[] }
noncomputable def f163:FI:={ fid:=163,fn:=Tryz.f163,c:=ac Tryz.f163,ins:={ sl:=[(0, .k (.ptr 0 4 0 0)),(1, .t (.i .i64)),(1000000, .k (.ptr 0 4 0 0))],ob:=[.box [.t (.st .GPensionref5_reader)]] },out:=.gen ({ sl:=[(1000000, .k (.ptr 0 4 0 0)),(2000000, .tp [.t (.i .i64)])],ob:=[.box [.t (.st .GPensionref5_reader)]] }),cuts:=[] }
noncomputable def f250:FI:={ fid:=250,fn:=Tryz.f250,c:=ac Tryz.f250,ins:={ sl:=[(0, .t (.i .i64))] },out:=.new (.t (.i .i64)),cuts:=[] }
noncomputable def f246:FI:={ fid:=246,fn:=Tryz.f246,c:=ac Tryz.f246,ins:={ sl:=[(0, .k (.ptr 0 4 0 0)),(1, .t (.i .i64)),(1000000, .k (.ptr 0 4 0 0))],ob:=[.box [.t (.st .GPensionref5_reader)]] },out:=.gen ({ sl:=[(1000000, .k (.ptr 0 4 0 0)),(2000000, .tp [.t (.st .GExpr)])],ob:=[.box [.t (.st .GPensionref5_reader)]] }),cuts:=[] }
noncomputable def f229:FI:={ fid:=229,fn:=Tryz.f229,c:=ac Tryz.f229,ins:={ sl:=[(0, .k (.ptr 0 4 0 0)),(1000000, .k (.ptr 0 4 0 0))],ob:=[.box [.t (.st .GPensionref5_reader)]] },out:=.gen ({ sl:=[(1000000, .k (.ptr 0 4 0 0)),(2000000, .tp [.t (.st .GExpr)])],ob:=[.box [.t (.st .GPensionref5_reader)]] }),cuts:=[] }
abbrev El:Tm:={ sl:=[(3, .t (.i .i64)),(12, .t (.b))],ob:=[] }
noncomputable def f247:FI:={ fid:=247,fn:=Tryz.f247,c:=ac Tryz.f247,ins:={ sl:=[(0, .t (.i .i64))] },out:=.new (.t (.i .i64)),cuts:=[(13823,El)] }
noncomputable def f248:FI:={ fid:=248,fn:=Tryz.f248,c:=ac Tryz.f248,ins:={ sl:=[(0, .t (.i .i64))] },out:=.new (.t (.s)),cuts:=[] }
abbrev It:Tm:={ sl:=[(0, .dp (.st .GPensionref5_reader)),(1, .t (.i .i64)),(5, .t (.i .i64))],ob:=[] }
noncomputable def f230:FI:={ fid:=230,fn:=Tryz.f230,c:=ac Tryz.f230,ins:={ sl:=[(0, .dp (.st .GPensionref5_reader)),(1, .t (.i .i64))] },out:=.new (.t (.i .i64)),cuts:=[(26,It)] }
abbrev GS:Tm:={ sl:=[(0, .k (.ptr 0 4 0 0)),(1, .t (.i .i64)),(4, .k (.ptr 1 6 0 0)),(8, .k (.ptr 2 6 0 0)),(1000000, .k (.ptr 0 4 0 0))],ob:=[.box [.t (.st .GPensionref5_reader)], .box [.t (.i .i64), .t (.st .GFraction), .t (.i .i64), .t (.s), .k (.c .nil)], .box [.t (.i .i64), .t (.st .GFraction), .t (.i .i64), .t (.s), .t (.ls (.st .GExpr))]] }
noncomputable def f206:FI:={ fid:=206,fn:=Tryz.f206,c:=ac Tryz.f206,ins:={ sl:=[(0, .k (.ptr 0 4 0 0)),(1, .t (.i .i64)),(1000000, .k (.ptr 0 4 0 0))],ob:=[.box [.t (.st .GPensionref5_reader)]] },out:=.gen ({ sl:=[(1000000, .k (.ptr 0 4 0 0)),(2000000, .tp [.t (.st .GExpr)])],ob:=[.box [.t (.st .GPensionref5_reader)]] }),cuts:=[(124,GS)] }
abbrev GY:Tm:={ sl:=[(0, .k (.ptr 0 4 0 0)),(1000000, .k (.ptr 0 4 0 0)),(1000001, .k (.ptr 1 8 0 0))],ob:=[.box [.t (.st .GPensionref5_reader)], .box [.t (.i .i64), .t (.st .GRounding), .k (.row 2 2), .k (.row 3 3), .k (.row 4 7), .k (.row 5 13), .k (.row 6 7)], .row 251 (.st .GCredit), .row 253 (.st .GIndex), .row 258 (.st .GLet), .row 261 (.st .GGrant), .row 263 (.st .GReduce)] }
abbrev EY:Tm:={ sl:=[(0, .k (.ptr 0 4 0 0)),(1, .k (.ptr 1 8 0 0)),(4, .k (.ptr 2 2 0 0)),(1000000, .k (.ptr 0 4 0 0)),(1000001, .k (.ptr 1 8 0 0))],ob:=[.box [.t (.st .GPensionref5_reader)], .box [.t (.i .i64), .t (.st .GRounding), .k (.row 3 2), .k (.row 4 3), .k (.row 5 7), .k (.row 6 13), .k (.row 7 7)], .box [.t (.st .GCredit)], .row 251 (.st .GCredit), .row 253 (.st .GIndex), .row 258 (.st .GLet), .row 261 (.st .GGrant), .row 263 (.st .GReduce)] }
abbrev Ej:Tm:={ sl:=[(0, .k (.ptr 0 4 0 0)),(1, .k (.ptr 1 8 0 0)),(6, .k (.ptr 2 3 0 0)),(1000000, .k (.ptr 0 4 0 0)),(1000001, .k (.ptr 1 8 0 0))],ob:=[.box [.t (.st .GPensionref5_reader)], .box [.t (.i .i64), .t (.st .GRounding), .k (.row 3 2), .k (.row 4 3), .k (.row 5 7), .k (.row 6 13), .k (.row 7 7)], .box [.t (.st .GIndex)], .row 251 (.st .GCredit), .row 253 (.st .GIndex), .row 258 (.st .GLet), .row 261 (.st .GGrant), .row 263 (.st .GReduce)] }
abbrev Ee:Tm:={ sl:=[(0, .k (.ptr 0 4 0 0)),(1, .k (.ptr 1 8 0 0)),(6, .k (.ptr 2 3 0 0)),(1000000, .k (.ptr 0 4 0 0)),(1000001, .k (.ptr 1 8 0 0))],ob:=[.box [.t (.st .GPensionref5_reader)], .box [.t (.i .i64), .t (.st .GRounding), .k (.row 3 2), .k (.row 4 3), .k (.row 5 7), .k (.row 6 13), .k (.row 7 7)], .box [.t (.st .GIndex)], .row 251 (.st .GCredit), .row 253 (.st .GIndex), .row 258 (.st .GLet), .row 261 (.st .GGrant), .row 263 (.st .GReduce)] }
noncomputable def FR:FI:={ fid:=164,fn:=Tryz.f164,c:=ac Tryz.f164,ins:={ sl:=[(0, .k (.ptr 0 4 0 0)),(1, .k (.ptr 1 8 0 0)),(1000000, .k (.ptr 0 4 0 0)),(1000001, .k (.ptr 1 8 0 0))],ob:=[.box [.t (.st .GPensionref5_reader)], .box [.t (.i .i64), .t (.st .GRounding), .k (.row 2 2), .k (.row 3 3), .k (.row 4 7), .k (.row 5 13), .k (.row 6 7)], .row 251 (.st .GCredit), .row 253 (.st .GIndex), .row 258 (.st .GLet), .row 261 (.st .GGrant), .row 263 (.st .GReduce)] },out:=.gen ({ sl:=[(1000000, .k (.ptr 0 4 0 0)),(1000001, .k (.ptr 1 8 0 0)),(2000000, .tp [.tp []])],ob:=[.box [.t (.st .GPensionref5_reader)], .box [.t (.i .i64), .t (.st .GRounding), .k (.row 2 2), .k (.row 3 3), .k (.row 4 7), .k (.row 5 13), .k (.row 6 7)], .row 251 (.st .GCredit), .row 253 (.st .GIndex), .row 258 (.st .GLet), .row 261 (.st .GGrant), .row 263 (.st .GReduce)] }),cuts:=[(3,GY),(75,EY),(315,Ej),(631,Ee)] }
abbrev I2:Tm:={ sl:=[(0, .k (.ptr 0 4 0 0)),(2, .k (.ptr 1 8 0 0)),(3, .k (.ptr 2 8 0 0)),(1000000, .k (.ptr 0 4 0 0))],ob:=[.box [.t (.st .GPensionref5_reader)], .box [.t (.i .i64), .t (.st .GRounding), .k (.c .nil), .k (.c .nil), .k (.c .nil), .k (.c .nil), .k (.c .nil)], .box [.t (.i .i64), .t (.st .GRounding), .k (.c .nil), .k (.c .nil), .k (.c .nil), .k (.c .nil), .k (.c .nil)]] }
abbrev Fm:Tm:={ sl:=[(0, .k (.ptr 0 4 0 0)),(2, .k (.ptr 1 8 0 0)),(3, .k (.ptr 2 8 0 0)),(1000000, .k (.ptr 0 4 0 0))],ob:=[.box [.t (.st .GPensionref5_reader)], .box [.t (.i .i64), .t (.st .GRounding), .k (.c .nil), .k (.c .nil), .k (.c .nil), .k (.c .nil), .k (.c .nil)], .box [.t (.i .i64), .t (.st .GRounding), .k (.row 3 2), .k (.row 4 3), .k (.row 5 7), .k (.row 6 13), .k (.row 7 7)], .row 251 (.st .GCredit), .row 253 (.st .GIndex), .row 258 (.st .GLet), .row 261 (.st .GGrant), .row 263 (.st .GReduce)] }
noncomputable def f125:FI:={ fid:=125,fn:=Tryz.f125,c:=ac Tryz.f125,ins:={ sl:=[(0, .k (.ptr 0 4 0 0)),(1000000, .k (.ptr 0 4 0 0))],ob:=[.box [.t (.st .GPensionref5_reader)]] },out:=.gen ({ sl:=[(1000000, .k (.ptr 0 4 0 0)),(2000000, .tp [.t (.st .GVersion)])],ob:=[.box [.t (.st .GPensionref5_reader)]] }),cuts:=[(31,I2),(4092,Fm)] }
noncomputable def f126:FI:={ fid:=126,fn:=Tryz.f126,c:=ac Tryz.f126,ins:={ sl:=[(0, .dp (.st .GPensionref5_reader))] },out:=.new (.t (.i .i64)),cuts:=[] }
noncomputable def f207:FI:={ fid:=207,fn:=Tryz.f207,c:=ac Tryz.f207,ins:={ sl:=[(0, .t (.st .GRounding))] },out:=.new (.t (.b)),cuts:=[] }
abbrev Io:Tm:={ sl:=[(0, .t (.i .i64)),(1, .t (.i .i64)),(5, .k (.row 0 1)),(6, .t (.i .i64))],ob:=[.row 9 (.s)] }
noncomputable def f208:FI:={ fid:=208,fn:=Tryz.f208,c:=ac Tryz.f208,ins:={ sl:=[(0, .t (.i .i64)),(1, .t (.i .i64))] },out:=.new (.t (.s)),cuts:=[(58,Io)] }
noncomputable def f231:FI:={ fid:=231,fn:=Tryz.f231,c:=ac Tryz.f231,ins:={ sl:=[(0, .t (.st .GFraction))] },out:=.new (.t (.b)),cuts:=[] }
abbrev Jj:Tm:={ sl:=[(0, .t (.i .i64)),(1, .t (.i .i64)),(5, .t (.s))],ob:=[] }
noncomputable def f249:FI:={ fid:=249,fn:=Tryz.f249,c:=ac Tryz.f249,ins:={ sl:=[(0, .t (.i .i64)),(1, .t (.i .i64))] },out:=.new (.t (.s)),cuts:=[(28,Jj)] }
abbrev I0:Tm:={ sl:=[(1, .k (.ptr 0 2 0 0)),(3, .t (.s))],ob:=[.box [.t (.st .GFraction)]] }
noncomputable def f232:FI:={ fid:=232,fn:=Tryz.f232,c:=ac Tryz.f232,ins:={ sl:=[(0, .t (.st .GFraction))] },out:=.new (.t (.s)),cuts:=[(31,I0)] }
abbrev FG:Tm:={ sl:=[(1, .t (.i .i64)),(7, .t (.s)),(8, .t (.i .i64)),(9, .t (.i .i64))],ob:=[] }
noncomputable def f209:FI:={ fid:=209,fn:=Tryz.f209,c:=ac Tryz.f209,ins:={ sl:=[(0, .t (.st .GFraction)),(1, .t (.i .i64))] },out:=.new (.tp [.t (.s), .t (.b)]),cuts:=[(2042,FG)] }
abbrev Iw:Tm:={ sl:=[(1, .k (.ptr 0 6 0 0)),(3, .t (.i .i64)),(4, .t (.i .i64))],ob:=[.box [.t (.i .i64), .t (.st .GFraction), .t (.i .i64), .t (.s), .t (.ls (.st .GExpr))]] }
noncomputable def f233:FI:={ fid:=233,fn:=Tryz.f233,c:=ac Tryz.f233,ins:={ sl:=[(0, .t (.st .GExpr))] },out:=.data (.t (.i .i64)),cuts:=[(58,Iw)] }
abbrev IG:Tm:={ sl:=[(1, .k (.ptr 0 6 0 0)),(3, .t (.i .i64)),(4, .t (.i .i64))],ob:=[.box [.t (.i .i64), .t (.st .GFraction), .t (.i .i64), .t (.s), .t (.ls (.st .GExpr))]] }
noncomputable def f234:FI:={ fid:=234,fn:=Tryz.f234,c:=ac Tryz.f234,ins:={ sl:=[(0, .t (.st .GExpr))] },out:=.data (.t (.i .i64)),cuts:=[(58,IG)] }
abbrev Hy:Tm:={ sl:=[(1, .k (.ptr 0 6 0 0)),(3, .t (.b)),(6, .t (.i .i64))],ob:=[.box [.t (.i .i64), .t (.st .GFraction), .t (.i .i64), .t (.s), .t (.ls (.st .GExpr))]] }
noncomputable def f235:FI:={ fid:=235,fn:=Tryz.f235,c:=ac Tryz.f235,ins:={ sl:=[(0, .t (.st .GExpr))] },out:=.new (.t (.b)),cuts:=[(250,Hy)] }
noncomputable def f210:FI:={ fid:=210,fn:=Tryz.f210,c:=ac Tryz.f210,ins:={ sl:=[(0, .t (.st .GExpr))] },out:=.new (.t (.b)),cuts:=[] }
abbrev IX:Tm:={ sl:=[(1, .k (.ptr 0 8 0 0)),(3, .t (.i .i64))],ob:=[.box [.t (.i .i64), .t (.st .GRounding), .t (.ls (.st .GCredit)), .t (.ls (.st .GIndex)), .t (.ls (.st .GLet)), .t (.ls (.st .GGrant)), .t (.ls (.st .GReduce))]] }
abbrev Hb:Tm:={ sl:=[(1, .k (.ptr 0 8 0 0)),(4, .t (.i .i64))],ob:=[.box [.t (.i .i64), .t (.st .GRounding), .t (.ls (.st .GCredit)), .t (.ls (.st .GIndex)), .t (.ls (.st .GLet)), .t (.ls (.st .GGrant)), .t (.ls (.st .GReduce))]] }
abbrev Hk:Tm:={ sl:=[(1, .k (.ptr 0 8 0 0)),(7, .t (.i .i64))],ob:=[.box [.t (.i .i64), .t (.st .GRounding), .t (.ls (.st .GCredit)), .t (.ls (.st .GIndex)), .t (.ls (.st .GLet)), .t (.ls (.st .GGrant)), .t (.ls (.st .GReduce))]] }
abbrev G9:Tm:={ sl:=[(1, .k (.ptr 0 8 0 0)),(8, .t (.i .i64))],ob:=[.box [.t (.i .i64), .t (.st .GRounding), .t (.ls (.st .GCredit)), .t (.ls (.st .GIndex)), .t (.ls (.st .GLet)), .t (.ls (.st .GGrant)), .t (.ls (.st .GReduce))]] }
abbrev Fo:Tm:={ sl:=[(1, .k (.ptr 0 8 0 0)),(9, .t (.i .i64))],ob:=[.box [.t (.i .i64), .t (.st .GRounding), .t (.ls (.st .GCredit)), .t (.ls (.st .GIndex)), .t (.ls (.st .GLet)), .t (.ls (.st .GGrant)), .t (.ls (.st .GReduce))]] }
noncomputable def f165:FI:={ fid:=165,fn:=Tryz.f165,c:=ac Tryz.f165,ins:={ sl:=[(0, .t (.st .GVersion))] },out:=.new (.t (.b)),cuts:=[(58,IX),(122,Hb),(250,Hk),(506,G9),(1018,Fo)] }
abbrev I4:Tm:={ sl:=[(1, .k (.ptr 0 3 0 0)),(3, .t (.i .i64))],ob:=[.box [.t (.s), .t (.i .i64), .t (.ls (.st .GVersion))]] }
noncomputable def f127:FI:={ fid:=127,fn:=Tryz.f127,c:=ac Tryz.f127,ins:={ sl:=[(0, .t (.st .GStatute))] },out:=.new (.t (.b)),cuts:=[(58,I4)] }
abbrev G7:Tm:={ sl:=[(2, .k (.ptr 0 3 0 0)),(5, .k (.ptr 1 4 0 0)),(8, .k (.ptr 2 3 0 0)),(9, .t (.b))],ob:=[.box [.t (.s), .t (.i .i64), .k (.c .nil)], .box [.t (.st .GPensionref5_reader)], .box [.t (.s), .t (.i .i64), .k (.row 3 8)], .row 178 (.st .GVersion)] }
noncomputable def f81:FI:={ fid:=81,fn:=Tryz.f81,c:=ac Tryz.f81,ins:={ sl:=[(0, .t (.s))] },out:=.data (.tp [.t (.st .GStatute), .t (.i .i64), .t (.i .i64)]),cuts:=[(4090,G7)] }
abbrev JG:Tm:={ sl:=[(0, .t (.ls (.i .i64))),(2, .k (.ptr 0 3 0 0)),(3, .k (.ptr 1 3 0 0)),(4, .t (.i .i64))],ob:=[.box [.k (.c .nil), .k (.c .nil), .k (.c .nil)], .box [.k (.row 2 4), .k (.c .nil), .k (.row 3 4)], .row 126 (.st .GState), .row 118 (.st .GRate)] }
noncomputable def f50:FI:={ fid:=50,fn:=Tryz.f50,c:=ac Tryz.f50,ins:={ sl:=[(0, .t (.ls (.i .i64)))],ob:=[] },out:=.gen ({ sl:=[(2000000, .tp [.ag [.k (.row 0 4), .k (.row 1 5), .k (.row 2 4)]])],ob:=[.row 126 (.st .GState), .row 42 (.st .GRules), .row 118 (.st .GRate)] }),cuts:=[(58,JG)] }
abbrev ID:Tm:={ sl:=[(1, .t (.i .i64)),(5, .k (.row 0 5)),(6, .t (.i .i64))],ob:=[.row 42 (.st .GRules)] }
noncomputable def f19:FI:={ fid:=19,fn:=Tryz.f19,c:=ac Tryz.f19,ins:={ sl:=[(0, .t (.ls (.i .i64))),(1, .t (.i .i64))] },out:=.own false 42 (.st .GRules),cuts:=[(234,ID)] }
noncomputable def f20:FI:={ fid:=20,fn:=Tryz.f20,c:=ac Tryz.f20,ins:={ sl:=[(0, .t (.i .i64)),(1, .t (.b))] },out:=.new (.t (.i .i64)),cuts:=[] }
abbrev JX:Tm:={ sl:=[(0, .t (.ls (.st .GRules))),(1, .t (.i .i64)),(4, .k (.ptr 0 5 0 0)),(6, .t (.i .i64))],ob:=[.box [.t (.st .GRules)]] }
noncomputable def f51:FI:={ fid:=51,fn:=Tryz.f51,c:=ac Tryz.f51,ins:={ sl:=[(0, .t (.ls (.st .GRules))),(1, .t (.i .i64))] },out:=.new (.tp [.t (.st .GRules), .t (.b)]),cuts:=[(26,JX)] }
abbrev Ji:Tm:={ sl:=[(0, .t (.ls (.st .GRules))),(3, .t (.i .i64))],ob:=[] }
abbrev F0:Tm:={ sl:=[(0, .t (.ls (.st .GRules))),(3, .t (.i .i64)),(4, .k (.ptr 0 5 0 0)),(5, .t (.i .i64))],ob:=[.box [.t (.st .GRules)]] }
noncomputable def f52:FI:={ fid:=52,fn:=Tryz.f52,c:=ac Tryz.f52,ins:={ sl:=[(0, .t (.ls (.st .GRules)))] },out:=.new (.t (.i .i64)),cuts:=[(122,Ji),(31310,F0)] }
noncomputable def f53:FI:={ fid:=53,fn:=Tryz.f53,c:=ac Tryz.f53,ins:={ sl:=[(0, .t (.st .GSpan)),(1, .t (.i .i64))] },out:=.new (.t (.b)),cuts:=[] }
abbrev IA:Tm:={ sl:=[(0, .t (.ls (.st .GFact))),(1, .t (.i .i64)),(4, .k (.ptr 0 1 0 0)),(5, .k (.ptr 1 1 0 0)),(6, .t (.i .i64))],ob:=[.row 184 (.i .i64), .row 184 (.i .i64)] }
noncomputable def f130:FI:={ fid:=130,fn:=Tryz.f130,c:=ac Tryz.f130,ins:={ sl:=[(0, .t (.ls (.st .GFact))),(1, .t (.i .i64))] },out:=.new (.t (.arr 6 (.i .i64))),cuts:=[(58,IA)] }
abbrev Jk:Tm:={ sl:=[(0, .t (.ls (.st .GFact))),(1, .t (.i .i64)),(6, .k (.row 0 14)),(7, .t (.i .i64)),(8, .t (.i .i64))],ob:=[.row 38 (.st .GFact)] }
noncomputable def f22:FI:={ fid:=22,fn:=Tryz.f22,c:=ac Tryz.f22,ins:={ sl:=[(0, .t (.ls (.st .GFact))),(1, .t (.i .i64))] },out:=.new (.tp [.t (.i .i64), .t (.b)]),cuts:=[(122,Jk)] }
abbrev IJ:Tm:={ sl:=[(0, .t (.ls (.st .GFact))),(1, .t (.i .i64)),(5, .t (.ls (.i .i64))),(6, .t (.i .i64))],ob:=[] }
noncomputable def f131:FI:={ fid:=131,fn:=Tryz.f131,c:=ac Tryz.f131,ins:={ sl:=[(0, .t (.ls (.st .GFact))),(1, .t (.i .i64))] },out:=.data (.t (.ls (.i .i64))),cuts:=[(58,IJ)] }
abbrev IY:Tm:={ sl:=[(0, .t (.ls (.st .GFact))),(1, .t (.ls (.st .GFact))),(3, .t (.i .i64)),(6, .k (.ptr 0 5 0 0)),(10, .k (.ptr 1 1 0 0)),(11, .t (.i .i64)),(12, .t (.i .i64)),(13, .t (.i .i64)),(14, .t (.i .i64))],ob:=[.box [.t (.st .GRules)], .row 184 (.i .i64)] }
noncomputable def f84:FI:={ fid:=84,fn:=Tryz.f84,c:=ac Tryz.f84,ins:={ sl:=[(0, .t (.ls (.st .GFact))),(1, .t (.ls (.st .GFact))),(2, .t (.st .GRules)),(3, .t (.i .i64))] },out:=.new (.tp [.t (.i .i64), .t (.b)]),cuts:=[(122,IY)] }
abbrev JY:Tm:={ sl:=[(0, .t (.ls (.st .GFact))),(1, .t (.ls (.st .GFact))),(2, .t (.ls (.st .GPosting))),(4, .t (.i .i64)),(8, .k (.ptr 0 5 0 0)),(12, .t (.i .i64)),(13, .t (.i .i64))],ob:=[.box [.t (.st .GRules)]] }
abbrev Jh:Tm:={ sl:=[(0, .t (.ls (.st .GFact))),(1, .t (.ls (.st .GFact))),(4, .t (.i .i64)),(8, .k (.ptr 0 5 0 0)),(12, .t (.i .i64)),(14, .t (.i .i64))],ob:=[.box [.t (.st .GRules)]] }
abbrev HG:Tm:={ sl:=[(0, .t (.ls (.st .GFact))),(1, .t (.ls (.st .GFact))),(4, .t (.i .i64)),(12, .t (.i .i64)),(17, .t (.i .i64))],ob:=[] }
noncomputable def f54:FI:={ fid:=54,fn:=Tryz.f54,c:=ac Tryz.f54,ins:={ sl:=[(0, .t (.ls (.st .GFact))),(1, .t (.ls (.st .GFact))),(2, .t (.ls (.st .GPosting))),(3, .t (.st .GRules)),(4, .t (.i .i64))] },out:=.new (.tp [.t (.i .i64), .t (.i .i64)]),cuts:=[(58,JY),(250,Jh),(2042,HG)] }
noncomputable def f21:FI:={ fid:=21,fn:=Tryz.f21,c:=ac Tryz.f21,ins:={ sl:=[(0, .t (.ls (.st .GFact))),(1, .t (.ls (.st .GRules))),(2, .t (.i .i64))] },out:=.new (.tp [.t (.i .i64), .t (.i .i64)]),cuts:=[] }
noncomputable def f5:FI:={ fid:=5,fn:=Tryz.f5,c:=ac Tryz.f5,ins:={ sl:=[(0, .t (.ls (.st .GPensionhand_Fact))),(1, .t (.ls (.i .i64))),(2, .t (.b)),(3, .t (.i .i64)),(4, .t (.i .i64))] },out:=.new (.t (.b)),cuts:=[] }
abbrev Jt:Tm:={ sl:=[(0, .t (.ls (.st .GPensionhand_Fact))),(1, .t (.ls (.i .i64))),(2, .t (.i .i64)),(7, .k (.row 0 14)),(8, .t (.i .i64))],ob:=[.row 38 (.st .GFact)] }
noncomputable def f6:FI:={ fid:=6,fn:=Tryz.f6,c:=ac Tryz.f6,ins:={ sl:=[(0, .t (.ls (.st .GPensionhand_Fact))),(1, .t (.ls (.i .i64))),(2, .t (.i .i64))] },out:=.new (.t (.b)),cuts:=[(122,Jt)] }
abbrev JM:Tm:={ sl:=[(1, .k (.ptr 0 5 0 0)),(3, .k (.row 1 1)),(18, .t (.ls (.st .GFact))),(19, .t (.i .i64)),(20, .t (.i .i64))],ob:=[.box [.t (.st .GCompetence_life)], .row 3 (.i .i64)] }
abbrev Ih:Tm:={ sl:=[(1, .k (.ptr 0 5 0 0)),(3, .k (.row 1 1)),(35, .t (.ls (.st .GRules))),(36, .t (.i .i64)),(37, .t (.i .i64))],ob:=[.box [.t (.st .GCompetence_life)], .row 3 (.i .i64)] }
abbrev Fb:Tm:={ sl:=[(1, .k (.ptr 0 5 0 0)),(3, .k (.row 1 1)),(7, .k (.ptr 2 5 0 0)),(35, .t (.ls (.st .GRules))),(36, .t (.i .i64)),(37, .t (.i .i64)),(47, .t (.ls (.st .GPosting))),(48, .t (.i .i64)),(49, .t (.i .i64))],ob:=[.box [.t (.st .GCompetence_life)], .row 3 (.i .i64), .box [.t (.st .GRules)]] }
noncomputable def f58:FI:={ fid:=58,fn:=Tryz.f58,c:=ac Tryz.f58,ins:={ sl:=[(0, .t (.st .GCompetence_life))] },out:=.own true 3 (.i .i64),cuts:=[(58,JM),(122,Ih),(62670,Fb)] }
abbrev Jq:Tm:={ sl:=[(5, .k (.ptr 0 5 0 0)),(7, .k (.row 1 4)),(8, .k (.row 2 1)),(9, .t (.i .i64))],ob:=[.box [.t (.st .GCompetence_life)], .row 62 (.st .GSegment), .row 3 (.i .i64)] }
noncomputable def f28:FI:={ fid:=28,fn:=Tryz.f28,c:=ac Tryz.f28,ins:={ sl:=[(0, .t (.ls (.st .GFact))),(1, .t (.ls (.st .GRules)))] },out:=.own true 62 (.st .GSegment),cuts:=[(506,Jq)] }
abbrev Jm:Tm:={ sl:=[(0, .t (.ls (.st .GFact))),(1, .t (.ls (.st .GRules))),(5, .k (.row 0 14)),(6, .k (.row 1 4)),(7, .k (.ptr 2 2 0 0)),(8, .t (.ls (.i .i64))),(9, .t (.i .i64))],ob:=[.row 38 (.st .GFact), .row 32 (.st .GPosting), .box [.t (.st .GSpan)]] }
abbrev Jg:Tm:={ sl:=[(0, .t (.ls (.st .GFact))),(1, .t (.ls (.st .GRules))),(5, .k (.row 0 14)),(6, .k (.row 1 4)),(7, .k (.ptr 2 2 0 0)),(8, .t (.ls (.i .i64))),(10, .t (.i .i64))],ob:=[.row 38 (.st .GFact), .row 32 (.st .GPosting), .box [.t (.st .GSpan)]] }
abbrev GF:Tm:={ sl:=[(0, .t (.ls (.st .GFact))),(1, .t (.ls (.st .GRules))),(5, .k (.row 0 14)),(6, .k (.row 1 4)),(7, .k (.ptr 2 2 0 0)),(8, .t (.ls (.i .i64))),(12, .t (.i .i64))],ob:=[.row 38 (.st .GFact), .row 32 (.st .GPosting), .box [.t (.st .GSpan)]] }
abbrev Hc:Tm:={ sl:=[(0, .t (.ls (.st .GFact))),(1, .t (.ls (.st .GRules))),(5, .k (.row 0 14)),(6, .k (.row 1 4)),(7, .k (.ptr 2 2 0 0)),(8, .t (.ls (.i .i64))),(13, .k (.row 3 4)),(14, .t (.i .i64))],ob:=[.row 38 (.st .GFact), .row 32 (.st .GPosting), .box [.t (.st .GSpan)], .row 62 (.st .GSegment)] }
abbrev FC:Tm:={ sl:=[(0, .t (.ls (.st .GFact))),(1, .t (.ls (.st .GRules))),(5, .k (.row 0 14)),(6, .k (.row 1 4)),(7, .k (.ptr 2 2 0 0)),(8, .t (.ls (.i .i64))),(10, .t (.i .i64)),(11, .t (.i .i64))],ob:=[.row 38 (.st .GFact), .row 32 (.st .GPosting), .box [.t (.st .GSpan)]] }
noncomputable def f23:FI:={ fid:=23,fn:=Tryz.f23,c:=ac Tryz.f23,ins:={ sl:=[(0, .t (.ls (.st .GFact))),(1, .t (.ls (.st .GRules)))] },out:=.own true 62 (.st .GSegment),cuts:=[(250,Jm),(506,Jg),(1018,GF),(4090,Hc),(64806,FC)] }
abbrev Jv:Tm:={ sl:=[(0, .t (.ls (.st .GSegment))),(1, .t (.ls (.st .GSegment))),(5, .t (.i .i64))],ob:=[] }
noncomputable def f27:FI:={ fid:=27,fn:=Tryz.f27,c:=ac Tryz.f27,ins:={ sl:=[(0, .t (.ls (.st .GSegment))),(1, .t (.ls (.st .GSegment)))] },out:=.new (.t (.b)),cuts:=[(58,Jv)] }
noncomputable def f8:FI:={ fid:=8,fn:=Tryz.f8,c:=ac Tryz.f8,ins:={ sl:=[(0, .t (.ls (.st .GPensionhand_Fact))),(1, .t (.ls (.i .i64))),(2, .t (.b)),(3, .t (.i .i64))] },out:=.new (.t (.b)),cuts:=[] }
abbrev I8:Tm:={ sl:=[(4, .t (.i .i64)),(13, .k (.row 0 4)),(14, .t (.i .i64)),(15, .t (.i .i64)),(16, .t (.i .i64)),(17, .t (.i .i64))],ob:=[.row 62 (.st .GSegment)] }
noncomputable def f9:FI:={ fid:=9,fn:=Tryz.f9,c:=ac Tryz.f9,ins:={ sl:=[(0, .t (.ls (.st .GPensionhand_Fact))),(1, .t (.ls (.i .i64))),(2, .t (.b)),(3, .t (.i .i64)),(4, .t (.i .i64))] },out:=.new (.t (.b)),cuts:=[(2042,I8)] }
noncomputable def HE:XT→HP f251.ins.tys→Option (HP f251.out.tys):=fun _ (a:ByteArray × Int)=>some (Go.firstIdx a.1 a.2.toNat.toUInt8)
noncomputable def Kd:XT→HP f74.ins.tys→Option (HP f74.out.tys):=fun _ (a:List GRules × Int)=>nR a.1 a.2
noncomputable def Tb:fE:={ P:=Tryz.prog,fs:=[(15,[f15]),(42,[f42]),(59,[f59]),(30,[f30]),(29,[f29]),(44,[f44]),(106,[f106]),(71,[f71]),(45,[f45]),(46,[f46]),(107,[lg,f107]),(72,[f72]),(47,[f47]),(17,[f17]),(43,[f43]),(16,[f16]),(11,[f11]),(137,[f137]),(140,[f140]),(238,[f238]),(219,[f219]),(193,[f193]),(139,[f139]),(138,[f138]),(141,[f141]),(142,[f142]),(90,[f90]),(61,[f61]),(60,[f60]),(31,[f31]),(91,[f91]),(63,[f63]),(64,[f64]),(33,[f33]),(85,[f85]),(56,[f56]),(62,[f62]),(32,[f32]),(12,[f12]),(38,[f38]),(105,[f105]),(69,[f69]),(70,[f70]),(40,[f40]),(148,[f148]),(55,[f55]),(102,[f102]),(83,[f83]),(103,[f103]),(104,[f104]),(68,[f68]),(39,[f39]),(41,[f41]),(13,[f13]),(109,[f109]),(149,[f149]),(108,[f108]),(73,[f73]),(48,[f48]),(75,[f75]),(76,[f76]),(153,[f153]),(116,[f116]),(112,[f112]),(77,[f77]),(155,[f155]),(196,[f196]),(154,[f154]),(119,[f119]),(80,[f80]),(115,[f115]),(78,[f78]),(67,[f67]),(37,[f37]),(118,[f118]),(117,[f117]),(79,[f79]),(49,[f49]),(18,[f18]),(14,[f14]),(3,[f3]),(4,[f4]),(128,[f128]),(166,[f166]),(129,[f129]),(82,[f82]),(220,[f220]),(221,[f221]),(223,[f223]),(222,[f222]),(200,[f200]),(227,[f227]),(254,[f254]),(244,[f244]),(245,[f245]),(228,[f228]),(202,[f202]),(224,[f224]),(197,[f197]),(156,[f156]),(120,[f120]),(161,[f161]),(124,[f124]),(157,[f157]),(121,[f121]),(158,[f158]),(198,[f198]),(199,[f199]),(159,[f159]),(122,[f122]),(226,[f226]),(101,[f101]),(255,[f255]),(253,[f253]),(242,[f242]),(243,[f243]),(225,[f225]),(201,[f201]),(160,[f160]),(123,[f123]),(162,[f162]),(203,[f203]),(204,[f204]),(205,[f205]),(163,[f163]),(250,[f250]),(246,[f246]),(229,[f229]),(247,[f247]),(248,[f248]),(230,[f230]),(206,[f206]),(164,[FR]),(125,[f125]),(126,[f126]),(207,[f207]),(208,[f208]),(231,[f231]),(249,[f249]),(232,[f232]),(209,[f209]),(233,[f233]),(234,[f234]),(235,[f235]),(210,[f210]),(165,[f165]),(127,[f127]),(81,[f81]),(50,[f50]),(19,[f19]),(20,[f20]),(51,[f51]),(52,[f52]),(53,[f53]),(130,[f130]),(22,[f22]),(131,[f131]),(84,[f84]),(54,[f54]),(21,[f21]),(5,[f5]),(6,[f6]),(58,[f58]),(28,[f28]),(23,[f23]),(27,[f27]),(8,[f8]),(9,[f9])],sp:=(fun f=>(bif Nat.beq f 74 then .hand f74 Kd else (bif Nat.beq f 251 then .hand f251 HE else (bif Nat.beq f 114 then .mut (fun _=>Ab 152) else (bif Nat.beq f 113 then .mut (fun _=>s7 152 3) else (bif Nat.beq f 89 then .mut (fun _=>qh) else (bif Nat.beq f 88 then .mut (fun _=>z8) else (bif Nat.beq f 86 then .mut (fun _=>l4 56 87 30 (.st .GSpan) fW) else (bif Nat.beq f 34 then .mut (fun _=>tw 35 32 (.st .GPosting) dE) else .none))))))))) }
theorem ak:fh Tb:=⟨fun f=>(.cnd (.h _) (.cnd (.h _) (.cnd (.m _) (.cnd (.m _) (.cnd (.m _) (.cnd (.m _) (.cnd (.m _) (.cnd (.m _) trivial))))))))⟩
noncomputable def nk (t0:ByteArray) (t1:Int):Option Int:=HE (Xc Tb) (t0,t1)
noncomputable def rU (t:List GRules) (day:Int):Option (GRules × Bool):=Kd (Xc Tb) (t,day)
noncomputable def jp (n:Int) (k:Int):Option Int:=Xf Tb f15 1 f15.ins (n,k)
noncomputable def ar (n:Int) (m:Int):Option Int:=Xf Tb f42 1 f42.ins (n,m)
noncomputable def bM (n:List Int) (i:Int):Option Int:=Xf Tb f59 1 f59.ins (n,i)
noncomputable def l8 (n:List Int):Option (List GFact):=Xf Tb f30 1 f30.ins n
noncomputable def iu (n:List Int) (p:Int) (out:List GFact):Option (List GFact):=Xf Tb f30 58 An (n,p,out)
noncomputable def qw (l:List GFact) (person:Int):Option (List GFact):=Xf Tb f29 1 f29.ins (l,person)
noncomputable def dL (l:List GFact) (person:Int) (i:Int) (out:List GFact):Option (List GFact):=Xf Tb f29 58 AY (l,person,i,out)
noncomputable def iv (kind:Int):Option ByteArray:=Xf Tb f44 1 f44.ins kind
noncomputable def pG (kind:Int) (c:Int):Option Bool:=Xf Tb f106 1 f106.ins (kind,c)
noncomputable def dz (c:Int) (s:ByteArray) (i:Int):Option Bool:=Xf Tb f106 58 xB (c,s,i)
noncomputable def bB (kind:Int) (c:Int) (n:Int) (least:Int) (most:Int):Option Bool:=Xf Tb f71 1 f71.ins (kind,c,n,least,most)
noncomputable def eY (f:GFact):Option Bool:=Xf Tb f45 1 f45.ins f
noncomputable def kA (a:GFact) (b:GFact):Option Int:=Xf Tb f46 1 f46.ins (a,b)
noncomputable def aQ (n:Int) (size:Int) (b:List Int):Option (List Int):=Xf Tb lg 1 lg.ins (n,size,b)
noncomputable def fZ (n:Int) (i:Int) (b:List Int):Option (List Int):=Xf Tb lg 26 sB (n,i,b)
noncomputable def kV (f:GFact):Option (List Int):=Xf Tb f72 1 f72.ins f
noncomputable def gI (gone:Int) (f:GFact):Option (List Int):=Xf Tb f72 31 BV (gone,f)
noncomputable def fk (s:ByteArray) (i:Int) (f:GFact) (b:List Int):Option (List Int):=Xf Tb f72 1018 uP (s,i,f,b)
noncomputable def bq (s:ByteArray) (i:Int) (f:GFact) (b:List Int):Option (List Int):=Xf Tb f72 8147 ue (s,i,f,b)
noncomputable def jJ (a:GFact) (b:GFact):Option Bool:=Xf Tb f47 1 f47.ins (a,b)
noncomputable def gq (a:List GFact) (b:List GFact):Option (List GFact):=Xf Tb f17 1 f17.ins (a,b)
noncomputable def aI (a:List GFact) (b:List GFact) (i:Int) (out:List GFact):Option (List GFact):=Xf Tb f17 58 Ca (a,b,i,out)
noncomputable def fj (a:List GFact) (b:List GFact) (i:Int) (out:List GFact) (f:GFact):Option (List GFact):=Xf Tb f17 3731 um (a,b,i,out,f)
noncomputable def eV (a:List GFact) (b:List GFact) (i:Int) (xat:Int) (out:List GFact) (f:GFact):Option (List GFact):=Xf Tb f17 59708 rB (a,b,i,xat,out,f)
noncomputable def ox (n:Int):Option Int:=Xf Tb f43 1 f43.ins n
noncomputable def sg (r:GPensionhand_Fact):Option GFact:=Xf Tb f16 1 f16.ins r
noncomputable def d8 (xfrom:Int) (to:Int) (r:GPensionhand_Fact) (t2:GFact) (f:GFact):Option GFact:=Xf Tb f16 127 xt (xfrom,to,r,t2,f)
noncomputable def gF (xfrom:Int) (to:Int) (u:ByteArray) (i:Int) (r:GPensionhand_Fact) (t2:GFact) (f:GFact):Option GFact:=Xf Tb f16 2042 uC (xfrom,to,u,i,r,t2,f)
noncomputable def bi (xfrom:Int) (to:Int) (u:ByteArray) (i:Int) (r:GPensionhand_Fact) (t2:GFact) (f:GFact):Option GFact:=Xf Tb f16 16339 rE (xfrom,to,u,i,r,t2,f)
noncomputable def mm (l:List GPensionhand_Fact) (n:List Int) (dense:Bool):Option (List GFact):=Xf Tb f11 1 f11.ins (l,n,dense)
noncomputable def fI (l:List GPensionhand_Fact) (n:List Int) (dense:Bool) (i:Int) (out:List GFact):Option (List GFact):=Xf Tb f11 58 A7 (l,n,dense,i,out)
noncomputable def dJ (l:List GPensionhand_Fact) (n:List Int) (dense:Bool) (i:Int) (out:List GFact) (r:GPensionhand_Fact):Option (List GFact):=Xf Tb f11 7463 ur (l,n,dense,i,out,r)
noncomputable def rm (kind:Int):Option ByteArray:=Xf Tb f137 1 f137.ins kind
noncomputable def ky (t3:Int) (t6:Bool):Option ByteArray:=Xf Tb f137 215 uJ (t3,t6)
noncomputable def eJ (t3:Int) (t11:Bool):Option ByteArray:=Xf Tb f137 3455 sK (t3,t11)
noncomputable def fa (t3:Int) (t20:Bool):Option ByteArray:=Xf Tb f137 221183 oz (t3,t20)
noncomputable def e6 (x:Int) (low:Int) (high:Int):Option Bool:=Xf Tb f140 1 f140.ins (x,low,high)
noncomputable def jo (s:ByteArray) (c:Int):Option Int:=Xf Tb f238 1 f238.ins (s,c)
noncomputable def lM (s:ByteArray) (substr:ByteArray):Option Int:=Xf Tb f219 1 f219.ins (s,substr)
noncomputable def qP (s:ByteArray) (substr:ByteArray):Option Int:=Xf Tb f193 1 f193.ins (s,substr)
noncomputable def mJ (s:ByteArray) (substr:ByteArray):Option Bool:=Xf Tb f139 1 f139.ins (s,substr)
noncomputable def bd (letter:ByteArray) (t1:ByteArray):Option Bool:=Xf Tb f138 1 f138.ins (letter,t1)
noncomputable def bG (used:Bool) (x:Int) (low:Int) (high:Int):Option Bool:=Xf Tb f141 1 f141.ins (used,x,low,high)
noncomputable def kw (s:GSpan):Option Bool:=Xf Tb f142 1 f142.ins s
noncomputable def qt (f:GFact):Option Bool:=Xf Tb f90 1 f90.ins f
noncomputable def ek (t89:Int) (t97:Bool) (f:GFact):Option Bool:=Xf Tb f90 2007 uk (t89,t97,f)
noncomputable def fm (f:GFact):Option Bool:=Xf Tb f61 1 f61.ins f
noncomputable def qH (l:List GFact):Option (List GFact):=Xf Tb f60 1 f60.ins l
noncomputable def br (t8:List GFact) (t9:Int) (t10:Int) (out:List GFact):Option (List GFact):=Xf Tb f60 58 Co (t8,t9,t10,out)
noncomputable def iC (l:List GFact):Option (List GFact):=Xf Tb f31 1 f31.ins l
noncomputable def jK (l:List GFact) (kind:Int):Option (Int × Bool):=Xf Tb f91 1 f91.ins (l,kind)
noncomputable def cm (kind:Int) (day:Int) (ok:Bool) (t10:List GFact) (t11:Int) (t12:Int):Option (Int × Bool):=Xf Tb f91 58 Bc (kind,day,ok,t10,t11,t12)
noncomputable def mZ (l:List GFact):Option (Int × Bool):=Xf Tb f63 1 f63.ins l
noncomputable def mx (l:List GFact):Option (Int × Bool):=Xf Tb f64 1 f64.ins l
noncomputable def iN (l:List GFact):Option GSpan:=Xf Tb f33 1 f33.ins l
noncomputable def oy (s:GSpan):Option GSpan:=Xf Tb f85 1 f85.ins s
noncomputable def l7 (l:List GSpan):Option (List GSpan):=Xf Tb f56 1 f56.ins l
noncomputable def cK (t10:List GSpan) (t11:Int) (t12:Int) (sorted:List GSpan):Option (List GSpan):=Xf Tb f56 58 Bo (t10,t11,t12,sorted)
noncomputable def cz (t33:Int) (t34:Int) (out:List GSpan) (t32:List GSpan):Option (List GSpan):=Xf Tb f56 506 xw (t33,t34,out,t32)
noncomputable def nG (a:List GSpan) (b:List GSpan):Option (List GSpan):=Xf Tb f62 1 f62.ins (a,b)
noncomputable def aX (i:Int) (j:Int) (a:List GSpan) (b:List GSpan) (out:List GSpan):Option (List GSpan):=Xf Tb f62 122 ya (i,j,a,b,out)
noncomputable def fA (i:Int) (j:Int) (a:List GSpan) (b:List GSpan) (out:List GSpan):Option (List GSpan):=Xf Tb f62 3915 uZ (i,j,a,b,out)
noncomputable def qG (l:List GSpan) (s:GSpan):Option (List GSpan):=Xf Tb f32 1 f32.ins (l,s)
noncomputable def dm (l:List GFact):Option (List GPosting):=Xf Tb f12 1 f12.ins l
noncomputable def cW (l:List GFact) (out:List GPosting) (w1s:Int) (w1l:List Int) (m2_k:List GCompetence_route) (m2_v:List (List GSpan)):Option (List GPosting):=Xf Tb f12 250 xY (l,out,w1s,w1l,m2_k,m2_v)
noncomputable def aV (l:List GFact) (t49:Int) (t50:Int) (out:List GPosting) (r:GCompetence_route) (w2s:Int) (w2l:List Int) (t48:List GSpan) (m4_k:List GCompetence_route) (m4_v:List (List GSpan)):Option (List GPosting):=Xf Tb f12 32054 rD (l,t49,t50,out,r,w2s,w2l,t48,m4_k,m4_v)
noncomputable def jd (l:List GFact):Option (List GFact):=Xf Tb f38 1 f38.ins l
noncomputable def bL (l:List GFact) (i:Int) (out:List GFact):Option (List GFact):=Xf Tb f38 58 A0 (l,i,out)
noncomputable def kW (l:List GFact) (kind:Int):Option (Int × Bool):=Xf Tb f105 1 f105.ins (l,kind)
noncomputable def cb (kind:Int) (day:Int) (ok:Bool) (i:Int) (c:List GFact):Option (Int × Bool):=Xf Tb f105 122 uq (kind,day,ok,i,c)
noncomputable def od (l:List GFact):Option (Int × Bool):=Xf Tb f69 1 f69.ins l
noncomputable def nX (l:List GFact):Option (Int × Bool):=Xf Tb f70 1 f70.ins l
noncomputable def pO (l:List GFact):Option GSpan:=Xf Tb f40 1 f40.ins l
noncomputable def nc (s:GSpan):Option (GSpan × Bool):=Xf Tb f148 1 f148.ins s
noncomputable def ic (l:List Int) (n:Int):Option (List Int):=Xf Tb f55 1 f55.ins (l,n)
noncomputable def gW (l:List Int) (n:Int) (xat:Int):Option (List Int):=Xf Tb f55 28 Cc (l,n,xat)
noncomputable def pc (lists:List (List GSpan)):Option (List Int):=Xf Tb f102 1 f102.ins lists
noncomputable def dt (lists:List (List GSpan)) (out:List Int) (i:Int):Option (List Int):=Xf Tb f102 58 yf (lists,out,i)
noncomputable def cd (lists:List (List GSpan)) (out:List Int) (i:Int) (k:Int):Option (List Int):=Xf Tb f102 3730 sJ (lists,out,i,k)
noncomputable def lE (day:Int):Option Bool:=Xf Tb f83 1 f83.ins day
noncomputable def iZ (l:List GSpan) (day:Int):Option Bool:=Xf Tb f103 1 f103.ins (l,day)
noncomputable def bt (l:List GSpan) (day:Int) (i:Int):Option Bool:=Xf Tb f103 26 xc (l,day,i)
noncomputable def uv (l:List GSpan) (s:GSpan):Option (List GSpan):=Xf Tb f104 1 f104.ins (l,s)
noncomputable def my (a:List GSpan) (b:List GSpan) (kind:Int):Option (List GSpan):=Xf Tb f68 1 f68.ins (a,b,kind)
noncomputable def bu (a:List GSpan) (b:List GSpan) (kind:Int) (e:List Int) (i:Int) (out:List GSpan):Option (List GSpan):=Xf Tb f68 122 wX (a,b,kind,e,i,out)
noncomputable def so (l:List GSpan) (s:GSpan):Option (List GSpan):=Xf Tb f39 1 f39.ins (l,s)
noncomputable def jH (l:List GPosting) (p:GPosting):Option (List GPosting):=Xf Tb f41 1 f41.ins (l,p)
noncomputable def fK (l:List GPosting) (xat:Int) (p:GPosting):Option (List GPosting):=Xf Tb f41 28 BY (l,xat,p)
noncomputable def ip (l:List GFact):Option (List GPosting):=Xf Tb f13 1 f13.ins l
noncomputable def dn (l:List GFact) (seat:Int) (c:List GFact) (out:List GPosting):Option (List GPosting):=Xf Tb f13 122 xj (l,seat,c,out)
noncomputable def bH (l:List GFact) (seat:Int) (state:Int) (c:List GFact) (out:List GPosting):Option (List GPosting):=Xf Tb f13 7826 ui (l,seat,state,c,out)
noncomputable def aK (l:List GFact) (seat:Int) (state:Int) (i:Int) (c:List GFact) (out:List GPosting) (s:List GSpan):Option (List GPosting):=Xf Tb f13 2003530 nZ (l,seat,state,i,c,out,s)
noncomputable def dj (l:List GFact) (seat:Int) (state:Int) (i:Int) (c:List GFact) (out:List GPosting) (s:List GSpan):Option (List GPosting):=Xf Tb f13 4007070 oo (l,seat,state,i,c,out,s)
noncomputable def iB (day:Int):Option Bool:=Xf Tb f109 1 f109.ins day
noncomputable def eC (x:Int) (high:Int):Option Bool:=Xf Tb f149 1 f149.ins (x,high)
noncomputable def mX (r:GRules):Option Bool:=Xf Tb f108 1 f108.ins r
noncomputable def cH (t28:List Int) (t29:Int) (t30:Int) (r:GRules):Option Bool:=Xf Tb f108 58 xF (t28,t29,t30,r)
noncomputable def mK (t:List GRules):Option Int:=Xf Tb f73 1 f73.ins t
noncomputable def bS (t:List GRules) (t18:List GRules) (t19:Int) (t20:Int):Option Int:=Xf Tb f73 122 w6 (t,t18,t19,t20)
noncomputable def ii (l:List GFact) (t:List GRules):Option (GCompetence_life × Bool):=Xf Tb f48 1 f48.ins (l,t)
noncomputable def dS (s:GSpan) (day:Int):Option Bool:=Xf Tb f75 1 f75.ins (s,day)
noncomputable def eu (x:GCompetence_life) (day:Int) (limit:Int):Option (Int × Bool):=Xf Tb f76 1 f76.ins (x,day,limit)
noncomputable def dG (day:Int) (limit:Int) (t11:List GPosting) (t12:Int) (t13:Int):Option (Int × Bool):=Xf Tb f76 26 B0 (day,limit,t11,t12,t13)
noncomputable def rV (s:List Int) (v:Int):Option Int:=Xf Tb f153 1 f153.ins (s,v)
noncomputable def cG (s:List Int) (v:Int) (t7:Int) (t8:Int):Option Int:=Xf Tb f153 26 yl (s,v,t7,t8)
noncomputable def gG (s:List Int) (v:Int):Option Bool:=Xf Tb f116 1 f116.ins (s,v)
noncomputable def bC (x:GCompetence_life) (day:Int) (kinds:List Int):Option (List GFact):=Xf Tb f112 1 f112.ins (x,day,kinds)
noncomputable def aP (day:Int) (kinds:List Int) (t11:List GFact) (t12:Int) (t13:Int) (out:List GFact):Option (List GFact):=Xf Tb f112 58 xK (day,kinds,t11,t12,t13,out)
noncomputable def fq (x:GCompetence_life) (day:Int):Option (Int × Bool):=Xf Tb f77 1 f77.ins (x,day)
noncomputable def cM (ok:Bool) (t15:Int) (t16:Int) (best:GFact) (t14:List GFact):Option (Int × Bool):=Xf Tb f77 58 Ar (ok,t15,t16,best,t14)
noncomputable def mz (s:GSpan) (t1:Int):Option Bool:=Xf Tb f155 1 f155.ins (s,t1)
noncomputable def mQ (s:List GSpan) (f0:Int):Option Int:=Xf Tb f196 1 f196.ins (s,f0)
noncomputable def bh (s:List GSpan) (f0:Int) (t7:Int) (t8:Int):Option Int:=Xf Tb f196 26 xQ (s,f0,t7,t8)
noncomputable def kd (s:List GSpan) (f0:Int):Option Bool:=Xf Tb f154 1 f154.ins (s,f0)
noncomputable def kL (l:List GSpan) (day:Int):Option Bool:=Xf Tb f119 1 f119.ins (l,day)
noncomputable def du (l:List GFact) (day:Int):Option (Int × Bool):=Xf Tb f80 1 f80.ins (l,day)
noncomputable def aD (day:Int) (ok:Bool) (t22:List GFact) (t23:Int) (t24:Int) (best:GFact):Option (Int × Bool):=Xf Tb f80 122 xD (day,ok,t22,t23,t24,best)
noncomputable def ga (l:List GFact):Option (List Int):=Xf Tb f115 1 f115.ins l
noncomputable def cU (t6:List GFact) (t7:Int) (t8:Int) (out:List Int):Option (List Int):=Xf Tb f115 58 yj (t6,t7,t8,out)
noncomputable def en (x:GCompetence_life) (day:Int) (substantial:Int):Option (Int × Bool):=Xf Tb f78 1 f78.ins (x,day,substantial)
noncomputable def bA (day:Int) (substantial:Int) (total:Int) (t26:Int) (t27:Int) (x:GCompetence_life) (shares_k:List Int) (shares_v:List Int) (t25:List GFact):Option (Int × Bool):=Xf Tb f78 58 Ag (day,substantial,total,t26,t27,x,shares_k,shares_v,t25)
noncomputable def cO (best:Int) (t118:Int) (t119:Int) (shares_k:List Int) (shares_v:List Int) (t117:List Int):Option (Int × Bool):=Xf Tb f78 65530 yY (best,t118,t119,shares_k,shares_v,t117)
noncomputable def no (x:GCompetence_life) (day:Int):Option (Int × Bool):=Xf Tb f79 1 f79.ins (x,day)
noncomputable def kj (x:GCompetence_life) (day:Int):Option (Int × Int):=Xf Tb f49 1 f49.ins (x,day)
noncomputable def jf (l:List GFact) (t:List GRules) (day:Int):Option (Int × Int):=Xf Tb f18 1 f18.ins (l,t,day)
noncomputable def n8:Option Bool:=Xf Tb f14 1 f14.ins ()
noncomputable def lT (l:List GPensionhand_Fact) (n:List Int) (dense:Bool):Option Bool:=Xf Tb f3 1 f3.ins (l,n,dense)
noncomputable def aZ (i:Int) (x:List GPosting) (y:List GPosting):Option Bool:=Xf Tb f3 250 Bn (i,x,y)
end Go.Ax
