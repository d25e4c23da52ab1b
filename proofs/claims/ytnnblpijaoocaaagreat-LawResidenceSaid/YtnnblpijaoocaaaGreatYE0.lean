import Derived.Test.YtnnblpijaoocaaaGreatYHd
import Derived.Test.YtnnblpijaoocaaaGreatRows
set_option linter.all false
set_option maxRecDepth 100000
set_option maxHeartbeats 0
namespace Go.Ax
open Go.Proofs Go.Proofs.YtnnblpijaoocaaaGreat
/- pension/pensionmade.Pick -/
noncomputable def f15:FI:={ fid:=15,fn:=Tryz.f15,c:=af Tryz.f15,ins:={ sl:=[(0, .t (.i .i64)),(1, .t (.i .i64))] },out:=.new (.t (.i .i64)),cuts:=[] }
noncomputable def f42:FI:={ fid:=42,fn:=Tryz.f42,c:=af Tryz.f42,ins:={ sl:=[(0, .t (.i .i64)),(1, .t (.i .i64))] },out:=.new (.t (.i .i64)),cuts:=[] }
noncomputable def f59:FI:={ fid:=59,fn:=Tryz.f59,c:=af Tryz.f59,ins:={ sl:=[(0, .t (.ls (.i .i64))),(1, .t (.i .i64))] },out:=.new (.t (.i .i64)),cuts:=[] }
abbrev Qv:Tm:={ sl:=[(0, .t (.ls (.i .i64))),(3, .k (.row 0 14)),(4, .t (.i .i64))],ob:=[.row 38 (.st .GFact)] }
noncomputable def f30:FI:={ fid:=30,fn:=Tryz.f30,c:=af Tryz.f30,ins:={ sl:=[(0, .t (.ls (.i .i64)))] },out:=.own true 38 (.st .GFact),cuts:=[(58,Qv)] }
abbrev Qe:Tm:={ sl:=[(0, .t (.ls (.st .GFact))),(1, .t (.i .i64)),(5, .k (.row 0 14)),(6, .t (.i .i64))],ob:=[.row 38 (.st .GFact)] }
noncomputable def f29:FI:={ fid:=29,fn:=Tryz.f29,c:=af Tryz.f29,ins:={ sl:=[(0, .t (.ls (.st .GFact))),(1, .t (.i .i64))] },out:=.own true 38 (.st .GFact),cuts:=[(58,Qe)] }
noncomputable def f44:FI:={ fid:=44,fn:=Tryz.f44,c:=af Tryz.f44,ins:={ sl:=[(0, .t (.i .i64))] },out:=.new (.t (.s)),cuts:=[] }
abbrev Co:Tm:={ sl:=[(1, .t (.i .u8)),(5, .t (.s)),(6, .t (.i .i64))],ob:=[] }
noncomputable def f106:FI:={ fid:=106,fn:=Tryz.f106,c:=af Tryz.f106,ins:={ sl:=[(0, .t (.i .i64)),(1, .t (.i .u8))] },out:=.new (.t (.b)),cuts:=[(58,Co)] }
noncomputable def f71:FI:={ fid:=71,fn:=Tryz.f71,c:=af Tryz.f71,ins:={ sl:=[(0, .t (.i .i64)),(1, .t (.i .u8)),(2, .t (.i .i64)),(3, .t (.i .i64)),(4, .t (.i .i64))] },out:=.new (.t (.b)),cuts:=[] }
noncomputable def f45:FI:={ fid:=45,fn:=Tryz.f45,c:=af Tryz.f45,ins:={ sl:=[(0, .t (.st .GFact))] },out:=.new (.t (.b)),cuts:=[] }
noncomputable def f46:FI:={ fid:=46,fn:=Tryz.f46,c:=af Tryz.f46,ins:={ sl:=[(0, .t (.st .GFact)),(1, .t (.st .GFact))] },out:=.new (.t (.i .i64)),cuts:=[] }
abbrev Pb:Tm:={ sl:=[(0, .k (.row 0 1)),(1, .t (.i .i64)),(7, .t (.i .i64))],ob:=[.row 5 (.i .u8)] }
noncomputable def f107:FI:={ fid:=107,fn:=Tryz.f107,c:=af Tryz.f107,ins:={ sl:=[(0, .k (.c .nil)),(1, .t (.i .i64)),(2, .t (.i .i64))],ob:=[] },out:=.gen ({ sl:=[(2000000, .tp [.k (.row 0 1)])],ob:=[.row 5 (.i .u8)] }),cuts:=[(26,Pb)] }
abbrev M1:Tm:={ sl:=[(0, .k (.row 0 1)),(1, .t (.i .i64)),(7, .t (.i .i64))],ob:=[.row 5 (.i .u8)] }
noncomputable def LQ:FI:={ fid:=107,fn:=Tryz.f107,c:=af Tryz.f107,ins:={ sl:=[(0, .k (.row 0 1)),(1, .t (.i .i64)),(2, .t (.i .i64))],ob:=[.row 5 (.i .u8)] },out:=.gen ({ sl:=[(2000000, .tp [.k (.row 0 1)])],ob:=[.row 5 (.i .u8)] }),cuts:=[(26,M1)] }
abbrev Qs:Tm:={ sl:=[(1, .k (.ptr 0 14 0 0)),(3, .t (.i .i64))],ob:=[.box [.t (.st .GFact)]] }
abbrev N8:Tm:={ sl:=[(1, .k (.ptr 0 14 0 0)),(4, .k (.row 1 1)),(5, .t (.s)),(6, .t (.i .i64))],ob:=[.box [.t (.st .GFact)], .row 5 (.i .u8)] }
abbrev Ot:Tm:={ sl:=[(1, .k (.ptr 0 14 0 0)),(4, .k (.row 1 1)),(5, .t (.s)),(6, .t (.i .i64))],ob:=[.box [.t (.st .GFact)], .row 5 (.i .u8)] }
noncomputable def f72:FI:={ fid:=72,fn:=Tryz.f72,c:=af Tryz.f72,ins:={ sl:=[(0, .t (.st .GFact))] },out:=.own true 5 (.i .u8),cuts:=[(31,Qs),(1018,N8),(8147,Ot)] }
noncomputable def f47:FI:={ fid:=47,fn:=Tryz.f47,c:=af Tryz.f47,ins:={ sl:=[(0, .t (.st .GFact)),(1, .t (.st .GFact))] },out:=.new (.t (.b)),cuts:=[] }
abbrev QE:Tm:={ sl:=[(0, .t (.ls (.st .GFact))),(1, .t (.ls (.st .GFact))),(5, .k (.row 0 14)),(6, .t (.i .i64))],ob:=[.row 38 (.st .GFact)] }
abbrev Oy:Tm:={ sl:=[(0, .t (.ls (.st .GFact))),(1, .t (.ls (.st .GFact))),(5, .k (.row 0 14)),(6, .t (.i .i64)),(7, .k (.ptr 1 14 0 0))],ob:=[.row 38 (.st .GFact), .box [.t (.st .GFact)]] }
abbrev M3:Tm:={ sl:=[(0, .t (.ls (.st .GFact))),(1, .t (.ls (.st .GFact))),(5, .k (.row 0 14)),(6, .t (.i .i64)),(7, .k (.ptr 1 14 0 0)),(8, .t (.i .i64))],ob:=[.row 38 (.st .GFact), .box [.t (.st .GFact)]] }
noncomputable def f17:FI:={ fid:=17,fn:=Tryz.f17,c:=af Tryz.f17,ins:={ sl:=[(0, .t (.ls (.st .GFact))),(1, .t (.ls (.st .GFact)))] },out:=.own true 38 (.st .GFact),cuts:=[(58,QE),(3731,Oy),(59708,M3)] }
noncomputable def f43:FI:={ fid:=43,fn:=Tryz.f43,c:=af Tryz.f43,ins:={ sl:=[(0, .t (.i .i64))] },out:=.new (.t (.i .i64)),cuts:=[] }
abbrev CN:Tm:={ sl:=[(1, .k (.ptr 0 13 0 0)),(2, .k (.ptr 1 14 0 0)),(3, .k (.ptr 2 14 0 0)),(4, .t (.i .i64)),(5, .t (.i .i64))],ob:=[.box [.t (.st .GPensionhand_Fact)], .box [.t (.st .GFact)], .box [.t (.st .GFact)]] }
abbrev zl:Tm:={ sl:=[(1, .k (.ptr 0 13 0 0)),(2, .k (.ptr 1 14 0 0)),(3, .k (.ptr 2 14 0 0)),(4, .t (.i .i64)),(5, .t (.i .i64)),(6, .t (.s)),(7, .t (.i .i64))],ob:=[.box [.t (.st .GPensionhand_Fact)], .box [.t (.st .GFact)], .box [.t (.st .GFact)]] }
abbrev xS:Tm:={ sl:=[(1, .k (.ptr 0 13 0 0)),(2, .k (.ptr 1 14 0 0)),(3, .k (.ptr 2 14 0 0)),(4, .t (.i .i64)),(5, .t (.i .i64)),(6, .t (.s)),(7, .t (.i .i64))],ob:=[.box [.t (.st .GPensionhand_Fact)], .box [.t (.st .GFact)], .box [.t (.st .GFact)]] }
noncomputable def f16:FI:={ fid:=16,fn:=Tryz.f16,c:=af Tryz.f16,ins:={ sl:=[(0, .t (.st .GPensionhand_Fact))] },out:=.new (.t (.st .GFact)),cuts:=[(127,CN),(2042,zl),(16339,xS)] }
abbrev QN:Tm:={ sl:=[(0, .t (.ls (.st .GPensionhand_Fact))),(1, .t (.ls (.i .i64))),(2, .t (.b)),(7, .k (.row 0 14)),(8, .t (.i .i64))],ob:=[.row 38 (.st .GFact)] }
abbrev Ns:Tm:={ sl:=[(0, .t (.ls (.st .GPensionhand_Fact))),(1, .t (.ls (.i .i64))),(2, .t (.b)),(7, .k (.row 0 14)),(8, .t (.i .i64)),(9, .k (.ptr 1 13 0 0))],ob:=[.row 38 (.st .GFact), .box [.t (.st .GPensionhand_Fact)]] }
noncomputable def f11:FI:={ fid:=11,fn:=Tryz.f11,c:=af Tryz.f11,ins:={ sl:=[(0, .t (.ls (.st .GPensionhand_Fact))),(1, .t (.ls (.i .i64))),(2, .t (.b))] },out:=.own true 38 (.st .GFact),cuts:=[(58,QN),(7463,Ns)] }
abbrev Au:Tm:={ sl:=[(3, .t (.i .i64)),(6, .t (.b))],ob:=[] }
abbrev xu:Tm:={ sl:=[(3, .t (.i .i64)),(11, .t (.b))],ob:=[] }
abbrev rS:Tm:={ sl:=[(3, .t (.i .i64)),(20, .t (.b))],ob:=[] }
noncomputable def f137:FI:={ fid:=137,fn:=Tryz.f137,c:=af Tryz.f137,ins:={ sl:=[(0, .t (.i .i64))] },out:=.new (.t (.s)),cuts:=[(215,Au),(3455,xu),(221183,rS)] }
noncomputable def f140:FI:={ fid:=140,fn:=Tryz.f140,c:=af Tryz.f140,ins:={ sl:=[(0, .t (.i .i64)),(1, .t (.i .i64)),(2, .t (.i .i64))] },out:=.new (.t (.b)),cuts:=[] }
noncomputable def f251:FI:={ fid:=251,fn:=Tryz.f251,c:=af Tryz.f251,ins:={ sl:=[(0, .t (.s)),(1, .t (.i .u8))] },out:=.data (.t (.i .i64)),cuts:=[] }
noncomputable def f238:FI:={ fid:=238,fn:=Tryz.f238,c:=af Tryz.f238,ins:={ sl:=[(0, .t (.s)),(1, .t (.i .u8))] },out:=.new (.t (.i .i64)),cuts:=[] }
noncomputable def f219:FI:={ fid:=219,fn:=Tryz.f219,c:=af Tryz.f219,ins:={ sl:=[(0, .t (.s)),(1, .t (.s))] },out:=.new (.t (.i .i64)),cuts:=[] }
noncomputable def f193:FI:={ fid:=193,fn:=Tryz.f193,c:=af Tryz.f193,ins:={ sl:=[(0, .t (.s)),(1, .t (.s))] },out:=.new (.t (.i .i64)),cuts:=[] }
noncomputable def f139:FI:={ fid:=139,fn:=Tryz.f139,c:=af Tryz.f139,ins:={ sl:=[(0, .t (.s)),(1, .t (.s))] },out:=.new (.t (.b)),cuts:=[] }
noncomputable def f138:FI:={ fid:=138,fn:=Tryz.f138,c:=af Tryz.f138,ins:={ sl:=[(0, .t (.s)),(1, .dp (.s))] },out:=.new (.t (.b)),cuts:=[] }
noncomputable def f141:FI:={ fid:=141,fn:=Tryz.f141,c:=af Tryz.f141,ins:={ sl:=[(0, .t (.b)),(1, .t (.i .i64)),(2, .t (.i .i64)),(3, .t (.i .i64))] },out:=.new (.t (.b)),cuts:=[] }
noncomputable def f142:FI:={ fid:=142,fn:=Tryz.f142,c:=af Tryz.f142,ins:={ sl:=[(0, .t (.st .GSpan))] },out:=.new (.t (.b)),cuts:=[] }
abbrev Am:Tm:={ sl:=[(1, .k (.ptr 0 14 0 0)),(89, .t (.i .i64)),(97, .t (.b))],ob:=[.box [.t (.st .GFact)]] }
noncomputable def f90:FI:={ fid:=90,fn:=Tryz.f90,c:=af Tryz.f90,ins:={ sl:=[(0, .t (.st .GFact))] },out:=.new (.t (.b)),cuts:=[(2007,Am)] }
noncomputable def f61:FI:={ fid:=61,fn:=Tryz.f61,c:=af Tryz.f61,ins:={ sl:=[(0, .t (.st .GFact))] },out:=.new (.t (.b)),cuts:=[] }
abbrev Gl:Tm:={ sl:=[(1, .fn 61 []),(5, .k (.row 0 14)),(8, .t (.ls (.st .GFact))),(9, .t (.i .i64)),(10, .t (.i .i64))],ob:=[.row 38 (.st .GFact)] }
noncomputable def f60:FI:={ fid:=60,fn:=Tryz.f60,c:=af Tryz.f60,ins:={ sl:=[(0, .t (.ls (.st .GFact))),(1, .fn 61 [])] },out:=.own true 38 (.st .GFact),cuts:=[(58,Gl)] }
noncomputable def f31:FI:={ fid:=31,fn:=Tryz.f31,c:=af Tryz.f31,ins:={ sl:=[(0, .t (.ls (.st .GFact)))] },out:=.own true 38 (.st .GFact),cuts:=[] }
abbrev Ia:Tm:={ sl:=[(1, .t (.i .i64)),(6, .t (.i .i64)),(7, .t (.b)),(10, .t (.ls (.st .GFact))),(11, .t (.i .i64)),(12, .t (.i .i64))],ob:=[] }
noncomputable def f91:FI:={ fid:=91,fn:=Tryz.f91,c:=af Tryz.f91,ins:={ sl:=[(0, .t (.ls (.st .GFact))),(1, .t (.i .i64))] },out:=.new (.tp [.t (.i .i64), .t (.b)]),cuts:=[(58,Ia)] }
noncomputable def f63:FI:={ fid:=63,fn:=Tryz.f63,c:=af Tryz.f63,ins:={ sl:=[(0, .t (.ls (.st .GFact)))] },out:=.new (.tp [.t (.i .i64), .t (.b)]),cuts:=[] }
noncomputable def f64:FI:={ fid:=64,fn:=Tryz.f64,c:=af Tryz.f64,ins:={ sl:=[(0, .t (.ls (.st .GFact)))] },out:=.new (.tp [.t (.i .i64), .t (.b)]),cuts:=[] }
noncomputable def f33:FI:={ fid:=33,fn:=Tryz.f33,c:=af Tryz.f33,ins:={ sl:=[(0, .t (.ls (.st .GFact)))] },out:=.new (.t (.st .GSpan)),cuts:=[] }
noncomputable def f85:FI:={ fid:=85,fn:=Tryz.f85,c:=af Tryz.f85,ins:={ sl:=[(0, .t (.st .GSpan))] },out:=.new (.t (.st .GSpan)),cuts:=[] }
abbrev GN:Tm:={ sl:=[(3, .k (.ptr 0 1 0 0)),(10, .t (.ls (.st .GSpan))),(11, .t (.i .i64)),(12, .t (.i .i64))],ob:=[.box [.k (.row 1 2)], .row 30 (.st .GSpan)] }
abbrev CS:Tm:={ sl:=[(6, .k (.row 0 2)),(32, .k (.row 1 2)),(33, .t (.i .i64)),(34, .t (.i .i64))],ob:=[.row 30 (.st .GSpan), .row 30 (.st .GSpan)] }
noncomputable def f56:FI:={ fid:=56,fn:=Tryz.f56,c:=af Tryz.f56,ins:={ sl:=[(0, .t (.ls (.st .GSpan)))] },out:=.own true 30 (.st .GSpan),cuts:=[(58,GN),(506,CS)] }
abbrev Dr:Tm:={ sl:=[(0, .k (.row 0 2)),(1, .k (.row 1 2)),(5, .k (.row 2 2)),(6, .t (.i .i64)),(7, .t (.i .i64))],ob:=[.row 30 (.st .GSpan), .row 30 (.st .GSpan), .row 30 (.st .GSpan)] }
abbrev zN:Tm:={ sl:=[(0, .k (.row 0 2)),(1, .k (.row 1 2)),(5, .k (.row 2 2)),(6, .t (.i .i64)),(7, .t (.i .i64))],ob:=[.row 30 (.st .GSpan), .row 30 (.st .GSpan), .row 30 (.st .GSpan)] }
noncomputable def f62:FI:={ fid:=62,fn:=Tryz.f62,c:=af Tryz.f62,ins:={ sl:=[(0, .t (.ls (.st .GSpan))),(1, .t (.ls (.st .GSpan)))] },out:=.own true 30 (.st .GSpan),cuts:=[(122,Dr),(3915,zN)] }
noncomputable def f32:FI:={ fid:=32,fn:=Tryz.f32,c:=af Tryz.f32,ins:={ sl:=[(0, .t (.ls (.st .GSpan))),(1, .t (.st .GSpan))] },out:=.own true 30 (.st .GSpan),cuts:=[] }
abbrev Dh:Tm:={ sl:=[(0, .t (.ls (.st .GFact))),(7, .k (.row 0 4)),(39, .k (.ptr 1 1 0 0))],ob:=[.row 32 (.st .GPosting), .iter (.fn 2000000000 [.k (.ptr 2 1 0 0)]), .map 66 (.st .GCompetence_route) (.ls (.st .GSpan))] }
abbrev wx:Tm:={ sl:=[(0, .t (.ls (.st .GFact))),(7, .k (.row 0 4)),(8, .k (.ptr 1 2 0 0)),(39, .k (.ptr 2 1 0 0)),(48, .k (.row 3 2)),(49, .t (.i .i64)),(50, .t (.i .i64))],ob:=[.row 32 (.st .GPosting), .box [.t (.st .GCompetence_route)], .iter (.fn 2000000000 [.k (.ptr 4 1 0 0)]), .row 30 (.st .GSpan), .map 66 (.st .GCompetence_route) (.ls (.st .GSpan))] }
noncomputable def f12:FI:={ fid:=12,fn:=Tryz.f12,c:=af Tryz.f12,ins:={ sl:=[(0, .t (.ls (.st .GFact)))] },out:=.own true 32 (.st .GPosting),cuts:=[(250,Dh),(32054,wx)],hd:=[(29,⟨{ sl:=[(0, .t (.ls (.st .GFact))),(3, .k (.fn 2000000000 [.ptr 0 1 0 0])),(14, .t (.ls (.st .GFact))),(15, .t (.i .i64)),(16, .t (.i .i64))],ob:=[.map 66 (.st .GCompetence_route) (.ls (.st .GSpan))] },{ sl:=[(0, .t (.ls (.st .GFact))),(3, .k (.fn 2000000000 [.ptr 0 1 0 0]))],ob:=[.map 66 (.st .GCompetence_route) (.ls (.st .GSpan))] },fun x=>qR x⟩)] }
abbrev Ha:Tm:={ sl:=[(0, .t (.ls (.st .GFact))),(3, .k (.row 0 14)),(4, .t (.i .i64))],ob:=[.row 38 (.st .GFact)] }
noncomputable def f38:FI:={ fid:=38,fn:=Tryz.f38,c:=af Tryz.f38,ins:={ sl:=[(0, .t (.ls (.st .GFact)))] },out:=.own true 38 (.st .GFact),cuts:=[(58,Ha)] }
abbrev Al:Tm:={ sl:=[(1, .t (.i .i64)),(6, .k (.row 0 14)),(7, .t (.i .i64)),(8, .t (.b)),(9, .t (.i .i64))],ob:=[.row 38 (.st .GFact)] }
noncomputable def f105:FI:={ fid:=105,fn:=Tryz.f105,c:=af Tryz.f105,ins:={ sl:=[(0, .t (.ls (.st .GFact))),(1, .t (.i .i64))] },out:=.new (.tp [.t (.i .i64), .t (.b)]),cuts:=[(122,Al)] }
noncomputable def f69:FI:={ fid:=69,fn:=Tryz.f69,c:=af Tryz.f69,ins:={ sl:=[(0, .t (.ls (.st .GFact)))] },out:=.new (.tp [.t (.i .i64), .t (.b)]),cuts:=[] }
noncomputable def f70:FI:={ fid:=70,fn:=Tryz.f70,c:=af Tryz.f70,ins:={ sl:=[(0, .t (.ls (.st .GFact)))] },out:=.new (.tp [.t (.i .i64), .t (.b)]),cuts:=[] }
noncomputable def f40:FI:={ fid:=40,fn:=Tryz.f40,c:=af Tryz.f40,ins:={ sl:=[(0, .t (.ls (.st .GFact)))] },out:=.new (.t (.st .GSpan)),cuts:=[] }
noncomputable def f148:FI:={ fid:=148,fn:=Tryz.f148,c:=af Tryz.f148,ins:={ sl:=[(0, .t (.st .GSpan))] },out:=.new (.tp [.t (.st .GSpan), .t (.b)]),cuts:=[] }
abbrev Gq:Tm:={ sl:=[(0, .t (.ls (.i .i64))),(1, .t (.i .i64)),(5, .t (.i .i64))],ob:=[] }
noncomputable def f55:FI:={ fid:=55,fn:=Tryz.f55,c:=af Tryz.f55,ins:={ sl:=[(0, .t (.ls (.i .i64))),(1, .t (.i .i64))] },out:=.data (.t (.ls (.i .i64))),cuts:=[(28,Gq)] }
abbrev Cl:Tm:={ sl:=[(0, .t (.ls (.ls (.st .GSpan)))),(3, .t (.ls (.i .i64))),(4, .t (.i .i64))],ob:=[] }
abbrev wv:Tm:={ sl:=[(0, .t (.ls (.ls (.st .GSpan)))),(3, .t (.ls (.i .i64))),(4, .t (.i .i64)),(5, .t (.i .i64))],ob:=[] }
noncomputable def f102:FI:={ fid:=102,fn:=Tryz.f102,c:=af Tryz.f102,ins:={ sl:=[(0, .t (.ls (.ls (.st .GSpan))))] },out:=.data (.t (.ls (.i .i64))),cuts:=[(58,Cl),(3730,wv)] }
noncomputable def f83:FI:={ fid:=83,fn:=Tryz.f83,c:=af Tryz.f83,ins:={ sl:=[(0, .t (.i .i64))] },out:=.new (.t (.b)),cuts:=[] }
abbrev Cg:Tm:={ sl:=[(0, .t (.ls (.st .GSpan))),(1, .t (.i .i64)),(5, .t (.i .i64))],ob:=[] }
noncomputable def f103:FI:={ fid:=103,fn:=Tryz.f103,c:=af Tryz.f103,ins:={ sl:=[(0, .t (.ls (.st .GSpan))),(1, .t (.i .i64))] },out:=.new (.t (.b)),cuts:=[(26,Cg)] }
noncomputable def f104:FI:={ fid:=104,fn:=Tryz.f104,c:=af Tryz.f104,ins:={ sl:=[(0, .t (.ls (.st .GSpan))),(1, .t (.st .GSpan))] },out:=.own true 30 (.st .GSpan),cuts:=[] }
abbrev De:Tm:={ sl:=[(0, .t (.ls (.st .GSpan))),(1, .t (.ls (.st .GSpan))),(2, .t (.i .i64)),(7, .t (.ls (.i .i64))),(8, .k (.row 0 2)),(9, .t (.i .i64))],ob:=[.row 30 (.st .GSpan)] }
noncomputable def f68:FI:={ fid:=68,fn:=Tryz.f68,c:=af Tryz.f68,ins:={ sl:=[(0, .t (.ls (.st .GSpan))),(1, .t (.ls (.st .GSpan))),(2, .t (.i .i64))] },out:=.own true 30 (.st .GSpan),cuts:=[(122,De)] }
noncomputable def f39:FI:={ fid:=39,fn:=Tryz.f39,c:=af Tryz.f39,ins:={ sl:=[(0, .t (.ls (.st .GSpan))),(1, .t (.st .GSpan))] },out:=.own true 30 (.st .GSpan),cuts:=[] }
abbrev HS:Tm:={ sl:=[(0, .t (.ls (.st .GPosting))),(3, .k (.ptr 0 4 0 0)),(5, .t (.i .i64))],ob:=[.box [.t (.st .GPosting)]] }
noncomputable def f41:FI:={ fid:=41,fn:=Tryz.f41,c:=af Tryz.f41,ins:={ sl:=[(0, .t (.ls (.st .GPosting))),(1, .t (.st .GPosting))] },out:=.own true 32 (.st .GPosting),cuts:=[(28,HS)] }
abbrev CM:Tm:={ sl:=[(0, .t (.ls (.st .GFact))),(3, .k (.row 0 14)),(4, .k (.row 1 4)),(5, .t (.i .i64))],ob:=[.row 38 (.st .GFact), .row 32 (.st .GPosting)] }
abbrev Av:Tm:={ sl:=[(0, .t (.ls (.st .GFact))),(3, .k (.row 0 14)),(4, .k (.row 1 4)),(5, .t (.i .i64)),(6, .t (.i .i64))],ob:=[.row 38 (.st .GFact), .row 32 (.st .GPosting)] }
abbrev rG:Tm:={ sl:=[(0, .t (.ls (.st .GFact))),(3, .k (.row 0 14)),(4, .k (.row 1 4)),(5, .t (.i .i64)),(6, .t (.i .i64)),(7, .k (.row 2 2)),(8, .t (.i .i64))],ob:=[.row 38 (.st .GFact), .row 32 (.st .GPosting), .row 30 (.st .GSpan)] }
abbrev sg:Tm:={ sl:=[(0, .t (.ls (.st .GFact))),(3, .k (.row 0 14)),(4, .k (.row 1 4)),(5, .t (.i .i64)),(6, .t (.i .i64)),(7, .k (.row 2 2)),(9, .t (.i .i64))],ob:=[.row 38 (.st .GFact), .row 32 (.st .GPosting), .row 30 (.st .GSpan)] }
noncomputable def f13:FI:={ fid:=13,fn:=Tryz.f13,c:=af Tryz.f13,ins:={ sl:=[(0, .t (.ls (.st .GFact)))] },out:=.own true 32 (.st .GPosting),cuts:=[(122,CM),(7826,Av),(2003530,rG),(4007070,sg)] }
noncomputable def f109:FI:={ fid:=109,fn:=Tryz.f109,c:=af Tryz.f109,ins:={ sl:=[(0, .t (.i .i64))] },out:=.new (.t (.b)),cuts:=[] }
noncomputable def f149:FI:={ fid:=149,fn:=Tryz.f149,c:=af Tryz.f149,ins:={ sl:=[(0, .t (.i .i64)),(1, .t (.i .i64))] },out:=.new (.t (.b)),cuts:=[] }
abbrev DD:Tm:={ sl:=[(1, .k (.ptr 0 5 0 0)),(28, .t (.ls (.i .i64))),(29, .t (.i .i64)),(30, .t (.i .i64))],ob:=[.box [.t (.st .GRules)]] }
noncomputable def f108:FI:={ fid:=108,fn:=Tryz.f108,c:=af Tryz.f108,ins:={ sl:=[(0, .t (.st .GRules))] },out:=.new (.t (.b)),cuts:=[(58,DD)] }
abbrev Ch:Tm:={ sl:=[(0, .t (.ls (.st .GRules))),(18, .t (.ls (.st .GRules))),(19, .t (.i .i64)),(20, .t (.i .i64))],ob:=[] }
noncomputable def f73:FI:={ fid:=73,fn:=Tryz.f73,c:=af Tryz.f73,ins:={ sl:=[(0, .t (.ls (.st .GRules)))] },out:=.new (.t (.i .i64)),cuts:=[(122,Ch)] }
noncomputable def f48:FI:={ fid:=48,fn:=Tryz.f48,c:=af Tryz.f48,ins:={ sl:=[(0, .t (.ls (.st .GFact))),(1, .t (.ls (.st .GRules)))] },out:=.data (.tp [.t (.st .GCompetence_life), .t (.b)]),cuts:=[] }
noncomputable def f74:FI:={ fid:=74,fn:=Tryz.f74,c:=af Tryz.f74,ins:={ sl:=[(0, .t (.ls (.st .GRules))),(1, .t (.i .i64))] },out:=.data (.tp [.t (.st .GRules), .t (.b)]),cuts:=[] }
noncomputable def f75:FI:={ fid:=75,fn:=Tryz.f75,c:=af Tryz.f75,ins:={ sl:=[(0, .t (.st .GSpan)),(1, .t (.i .i64))] },out:=.new (.t (.b)),cuts:=[] }
abbrev Ix:Tm:={ sl:=[(1, .t (.i .i64)),(2, .t (.i .i64)),(11, .t (.ls (.st .GPosting))),(12, .t (.i .i64)),(13, .t (.i .i64))],ob:=[] }
noncomputable def f76:FI:={ fid:=76,fn:=Tryz.f76,c:=af Tryz.f76,ins:={ sl:=[(0, .t (.st .GCompetence_life)),(1, .t (.i .i64)),(2, .t (.i .i64))] },out:=.new (.tp [.t (.i .i64), .t (.b)]),cuts:=[(26,Ix)] }
abbrev Ca:Tm:={ sl:=[(0, .t (.ls (.i .i64))),(1, .t (.i .i64)),(7, .t (.i .i64)),(8, .t (.i .i64))],ob:=[] }
noncomputable def f153:FI:={ fid:=153,fn:=Tryz.f153,c:=af Tryz.f153,ins:={ sl:=[(0, .t (.ls (.i .i64))),(1, .t (.i .i64))] },out:=.new (.t (.i .i64)),cuts:=[(26,Ca)] }
noncomputable def f116:FI:={ fid:=116,fn:=Tryz.f116,c:=af Tryz.f116,ins:={ sl:=[(0, .t (.ls (.i .i64))),(1, .t (.i .i64))] },out:=.new (.t (.b)),cuts:=[] }
abbrev Dv:Tm:={ sl:=[(1, .t (.i .i64)),(2, .t (.ls (.i .i64))),(7, .k (.row 0 14)),(11, .t (.ls (.st .GFact))),(12, .t (.i .i64)),(13, .t (.i .i64))],ob:=[.row 38 (.st .GFact)] }
noncomputable def f112:FI:={ fid:=112,fn:=Tryz.f112,c:=af Tryz.f112,ins:={ sl:=[(0, .t (.st .GCompetence_life)),(1, .t (.i .i64)),(2, .t (.ls (.i .i64)))] },out:=.own true 38 (.st .GFact),cuts:=[(58,Dv)] }
abbrev Gd:Tm:={ sl:=[(6, .k (.ptr 0 14 0 0)),(7, .t (.b)),(14, .k (.row 1 14)),(15, .t (.i .i64)),(16, .t (.i .i64))],ob:=[.box [.t (.st .GFact)], .row 38 (.st .GFact)] }
noncomputable def f77:FI:={ fid:=77,fn:=Tryz.f77,c:=af Tryz.f77,ins:={ sl:=[(0, .t (.st .GCompetence_life)),(1, .t (.i .i64))] },out:=.new (.tp [.t (.i .i64), .t (.b)]),cuts:=[(58,Gd)] }
noncomputable def f155:FI:={ fid:=155,fn:=Tryz.f155,c:=af Tryz.f155,ins:={ sl:=[(0, .t (.st .GSpan)),(1, .dp (.i .i64))] },out:=.new (.t (.b)),cuts:=[] }
abbrev Di:Tm:={ sl:=[(0, .t (.ls (.st .GSpan))),(1, .fn 155 [.dp (.i .i64)]),(7, .t (.i .i64)),(8, .t (.i .i64))],ob:=[] }
noncomputable def f196:FI:={ fid:=196,fn:=Tryz.f196,c:=af Tryz.f196,ins:={ sl:=[(0, .t (.ls (.st .GSpan))),(1, .fn 155 [.dp (.i .i64)])] },out:=.new (.t (.i .i64)),cuts:=[(26,Di)] }
noncomputable def f154:FI:={ fid:=154,fn:=Tryz.f154,c:=af Tryz.f154,ins:={ sl:=[(0, .t (.ls (.st .GSpan))),(1, .fn 155 [.dp (.i .i64)])] },out:=.new (.t (.b)),cuts:=[] }
noncomputable def f119:FI:={ fid:=119,fn:=Tryz.f119,c:=af Tryz.f119,ins:={ sl:=[(0, .t (.ls (.st .GSpan))),(1, .t (.i .i64))] },out:=.new (.t (.b)),cuts:=[] }
abbrev Da:Tm:={ sl:=[(1, .t (.i .i64)),(6, .k (.ptr 0 14 0 0)),(7, .t (.b)),(22, .t (.ls (.st .GFact))),(23, .t (.i .i64)),(24, .t (.i .i64))],ob:=[.box [.t (.st .GFact)]] }
noncomputable def f80:FI:={ fid:=80,fn:=Tryz.f80,c:=af Tryz.f80,ins:={ sl:=[(0, .t (.ls (.st .GFact))),(1, .t (.i .i64))] },out:=.new (.tp [.t (.i .i64), .t (.b)]),cuts:=[(122,Da)] }
abbrev CK:Tm:={ sl:=[(3, .k (.row 0 1)),(6, .t (.ls (.st .GFact))),(7, .t (.i .i64)),(8, .t (.i .i64))],ob:=[.row 3 (.i .i64)] }
noncomputable def f115:FI:={ fid:=115,fn:=Tryz.f115,c:=af Tryz.f115,ins:={ sl:=[(0, .t (.ls (.st .GFact)))] },out:=.own true 3 (.i .i64),cuts:=[(58,CK)] }
abbrev It:Tm:={ sl:=[(1, .t (.i .i64)),(2, .t (.i .i64)),(3, .k (.ptr 0 5 0 0)),(8, .fn 2000000000 [.k (.ptr 1 1 0 0)]),(9, .t (.i .i64)),(25, .k (.row 2 14)),(26, .t (.i .i64)),(27, .t (.i .i64))],ob:=[.box [.t (.st .GCompetence_life)], .map 153 (.i .i64) (.i .i64), .row 38 (.st .GFact)] }
abbrev D8:Tm:={ sl:=[(8, .fn 2000000000 [.k (.ptr 0 1 0 0)]),(18, .t (.i .i64)),(117, .k (.row 1 1)),(118, .t (.i .i64)),(119, .t (.i .i64))],ob:=[.map 153 (.i .i64) (.i .i64), .row 3 (.i .i64)] }
noncomputable def f78:FI:={ fid:=78,fn:=Tryz.f78,c:=af Tryz.f78,ins:={ sl:=[(0, .t (.st .GCompetence_life)),(1, .t (.i .i64)),(2, .t (.i .i64))] },out:=.new (.tp [.t (.i .i64), .t (.b)]),cuts:=[(58,It),(65530,D8)] }
noncomputable def f67:FI:={ fid:=67,fn:=Tryz.f67,c:=af Tryz.f67,ins:={ sl:=[(0, .t (.i .i64))] },out:=.new (.t (.b)),cuts:=[] }
noncomputable def f37:FI:={ fid:=37,fn:=Tryz.f37,c:=af Tryz.f37,ins:={ sl:=[(0, .t (.i .i64)),(1, .t (.i .i64))] },out:=.new (.t (.i .i64)),cuts:=[] }
noncomputable def f118:FI:={ fid:=118,fn:=Tryz.f118,c:=af Tryz.f118,ins:={ sl:=[(0, .t (.st .GFact)),(1, .t (.st .GFact))] },out:=.new (.t (.i .i64)),cuts:=[] }
abbrev zZ:Tm:={ sl:=[(0, .t (.ls (.st .GFact))),(1, .fn 118 []),(4, .k (.ptr 0 14 0 0)),(5, .k (.ptr 1 14 0 0)),(6, .t (.i .i64))],ob:=[.box [.t (.st .GFact)], .box [.t (.st .GFact)]] }
noncomputable def f117:FI:={ fid:=117,fn:=Tryz.f117,c:=af Tryz.f117,ins:={ sl:=[(0, .t (.ls (.st .GFact))),(1, .fn 118 [])] },out:=.new (.t (.st .GFact)),cuts:=[(122,zZ)] }
noncomputable def f79:FI:={ fid:=79,fn:=Tryz.f79,c:=af Tryz.f79,ins:={ sl:=[(0, .t (.st .GCompetence_life)),(1, .t (.i .i64))] },out:=.new (.tp [.t (.i .i64), .t (.b)]),cuts:=[] }
noncomputable def f49:FI:={ fid:=49,fn:=Tryz.f49,c:=af Tryz.f49,ins:={ sl:=[(0, .t (.st .GCompetence_life)),(1, .t (.i .i64))] },out:=.new (.tp [.t (.i .i64), .t (.i .i64)]),cuts:=[] }
noncomputable def f18:FI:={ fid:=18,fn:=Tryz.f18,c:=af Tryz.f18,ins:={ sl:=[(0, .t (.ls (.st .GFact))),(1, .t (.ls (.st .GRules))),(2, .t (.i .i64))] },out:=.new (.tp [.t (.i .i64), .t (.i .i64)]),cuts:=[] }
noncomputable def f14:FI:={ fid:=14,fn:=Tryz.f14,c:=af Tryz.f14,ins:={ sl:=[] },out:=.new (.t (.b)),cuts:=[] }
abbrev Qp:Tm:={ sl:=[(8, .k (.row 0 4)),(9, .k (.row 1 4)),(10, .t (.i .i64))],ob:=[.row 32 (.st .GPosting), .row 32 (.st .GPosting)] }
noncomputable def f3:FI:={ fid:=3,fn:=Tryz.f3,c:=af Tryz.f3,ins:={ sl:=[(0, .t (.ls (.st .GPensionhand_Fact))),(1, .t (.ls (.i .i64))),(2, .t (.b))] },out:=.new (.t (.b)),cuts:=[(250,Qp)] }
abbrev Qr:Tm:={ sl:=[(0, .t (.ls (.st .GPensionhand_Fact))),(2, .t (.i .i64)),(3, .t (.i .i64)),(4, .t (.i .i64)),(5, .t (.i .i64)),(13, .k (.row 0 14)),(14, .t (.i .i64))],ob:=[.row 38 (.st .GFact)] }
noncomputable def f4:FI:={ fid:=4,fn:=Tryz.f4,c:=af Tryz.f4,ins:={ sl:=[(0, .t (.ls (.st .GPensionhand_Fact))),(1, .t (.ls (.i .i64))),(2, .t (.i .i64)),(3, .t (.i .i64)),(4, .t (.i .i64)),(5, .t (.i .i64))] },out:=.new (.t (.b)),cuts:=[(250,Qr)] }
abbrev CP:Tm:={ sl:=[(0, .t (.i .i64)),(3, .t (.s))],ob:=[] }
noncomputable def f128:FI:={ fid:=128,fn:=Tryz.f128,c:=af Tryz.f128,ins:={ sl:=[(0, .t (.i .i64))] },out:=.new (.t (.s)),cuts:=[(28,CP)] }
noncomputable def f166:FI:={ fid:=166,fn:=Tryz.f166,c:=af Tryz.f166,ins:={ sl:=[(0, .t (.i .i64))] },out:=.new (.t (.s)),cuts:=[] }
abbrev DM:Tm:={ sl:=[(1, .t (.ls (.i .i64))),(2, .t (.i .i64)),(7, .t (.s)),(8, .t (.s))],ob:=[] }
abbrev Ar:Tm:={ sl:=[(1, .t (.ls (.i .i64))),(2, .t (.i .i64)),(7, .t (.s)),(8, .t (.s))],ob:=[] }
abbrev zT:Tm:={ sl:=[(1, .t (.ls (.i .i64))),(2, .t (.i .i64)),(7, .t (.s)),(8, .t (.s))],ob:=[] }
abbrev wc:Tm:={ sl:=[(1, .t (.ls (.i .i64))),(2, .t (.i .i64)),(8, .t (.s))],ob:=[] }
abbrev tz:Tm:={ sl:=[(1, .t (.ls (.i .i64))),(2, .t (.i .i64)),(8, .t (.s))],ob:=[] }
noncomputable def f129:FI:={ fid:=129,fn:=Tryz.f129,c:=af Tryz.f129,ins:={ sl:=[(0, .t (.s)),(1, .t (.ls (.i .i64))),(2, .t (.i .i64))] },out:=.new (.t (.s)),cuts:=[(31,DM),(127,Ar),(255,zT),(8191,wc),(65535,tz)] }
abbrev GZ:Tm:={ sl:=[(0, .t (.i .i64)),(1, .t (.ls (.i .i64))),(6, .t (.s))],ob:=[] }
noncomputable def f82:FI:={ fid:=82,fn:=Tryz.f82,c:=af Tryz.f82,ins:={ sl:=[(0, .t (.i .i64)),(1, .t (.ls (.i .i64)))] },out:=.new (.t (.s)),cuts:=[(31,GZ)] }
abbrev Cc:Tm:={ sl:=[(0, .t (.s)),(1, .t (.i .i64)),(5, .t (.b))],ob:=[] }
noncomputable def f220:FI:={ fid:=220,fn:=Tryz.f220,c:=af Tryz.f220,ins:={ sl:=[(0, .t (.s)),(1, .t (.i .i64))] },out:=.new (.t (.i .i64)),cuts:=[(28,Cc)] }
noncomputable def f221:FI:={ fid:=221,fn:=Tryz.f221,c:=af Tryz.f221,ins:={ sl:=[(0, .t (.i .u8))] },out:=.new (.t (.b)),cuts:=[] }
noncomputable def f223:FI:={ fid:=223,fn:=Tryz.f223,c:=af Tryz.f223,ins:={ sl:=[(0, .t (.i .u8))] },out:=.new (.t (.b)),cuts:=[] }
abbrev Do:Tm:={ sl:=[(0, .t (.s)),(1, .t (.i .i64)),(2, .t (.b)),(7, .t (.i .i64))],ob:=[] }
noncomputable def f222:FI:={ fid:=222,fn:=Tryz.f222,c:=af Tryz.f222,ins:={ sl:=[(0, .t (.s)),(1, .t (.i .i64)),(2, .t (.b))] },out:=.new (.t (.i .i64)),cuts:=[(28,Do)] }
abbrev DV:Tm:={ sl:=[(0, .t (.s)),(6, .t (.i .i64))],ob:=[] }
abbrev zV:Tm:={ sl:=[(0, .t (.s)),(6, .t (.i .i64)),(8, .t (.i .i64)),(9, .t (.i .i64))],ob:=[] }
abbrev Ak:Tm:={ sl:=[(6, .t (.i .i64)),(10, .t (.s)),(11, .t (.s))],ob:=[] }
abbrev wg:Tm:={ sl:=[(6, .t (.i .i64)),(10, .t (.s)),(11, .t (.s)),(12, .t (.i .i64))],ob:=[] }
noncomputable def f200:FI:={ fid:=200,fn:=Tryz.f200,c:=af Tryz.f200,ins:={ sl:=[(0, .t (.s))] },out:=.new (.tp [.t (.s), .t (.s), .t (.i .i64), .t (.b)]),cuts:=[(15,DV),(250,zV),(255,Ak),(2042,wg)] }
abbrev CF:Tm:={ sl:=[(0, .t (.s)),(4, .t (.i .i64)),(5, .t (.i .i64))],ob:=[] }
noncomputable def f227:FI:={ fid:=227,fn:=Tryz.f227,c:=af Tryz.f227,ins:={ sl:=[(0, .t (.s))] },out:=.new (.tp [.t (.i .i64), .t (.b)]),cuts:=[(58,CF)] }
noncomputable def f254:FI:={ fid:=254,fn:=Tryz.f254,c:=af Tryz.f254,ins:={ sl:=[(0, .t (.i .i64))] },out:=.new (.t (.b)),cuts:=[] }
noncomputable def f244:FI:={ fid:=244,fn:=Tryz.f244,c:=af Tryz.f244,ins:={ sl:=[(0, .t (.i .i64)),(1, .t (.i .i64))] },out:=.new (.t (.i .i64)),cuts:=[] }
abbrev CX:Tm:={ sl:=[(0, .t (.i .i64)),(3, .t (.i .i64)),(4, .t (.i .i64))],ob:=[] }
noncomputable def f245:FI:={ fid:=245,fn:=Tryz.f245,c:=af Tryz.f245,ins:={ sl:=[(0, .t (.i .i64))] },out:=.new (.t (.i .i64)),cuts:=[(58,CX)] }
noncomputable def f228:FI:={ fid:=228,fn:=Tryz.f228,c:=af Tryz.f228,ins:={ sl:=[(0, .t (.i .i64)),(1, .t (.i .i64)),(2, .t (.i .i64))] },out:=.new (.tp [.t (.i .i64), .t (.b)]),cuts:=[] }
noncomputable def f202:FI:={ fid:=202,fn:=Tryz.f202,c:=af Tryz.f202,ins:={ sl:=[(0, .t (.s))] },out:=.new (.tp [.t (.i .i64), .t (.b)]),cuts:=[] }
abbrev Hf:Tm:={ sl:=[(0, .t (.s)),(1, .t (.i .i64))],ob:=[] }
abbrev Az:Tm:={ sl:=[(29, .t (.b))],ob:=[] }
noncomputable def f224:FI:={ fid:=224,fn:=Tryz.f224,c:=af Tryz.f224,ins:={ sl:=[(0, .t (.s)),(1, .t (.i .i64))] },out:=.new (.t (.i .i64)),cuts:=[(7,Hf),(117,Az)] }
abbrev zB:Tm:={ sl:=[(0, .t (.s)),(1, .t (.i .i64)),(4, .k (.ptr 0 3 0 0)),(7, .t (.i .i64)),(8, .t (.i .i64)),(9, .t (.b))],ob:=[.box [.t (.st .GToken)]] }
noncomputable def f197:FI:={ fid:=197,fn:=Tryz.f197,c:=af Tryz.f197,ins:={ sl:=[(0, .t (.s)),(1, .t (.i .i64))] },out:=.new (.tp [.t (.st .GToken), .t (.i .i64), .t (.i .i64)]),cuts:=[(127,zB)] }
abbrev C1:Tm:={ sl:=[(0, .t (.s)),(5, .k (.row 0 3)),(6, .t (.i .i64))],ob:=[.row 216 (.st .GToken)] }
noncomputable def f156:FI:={ fid:=156,fn:=Tryz.f156,c:=af Tryz.f156,ins:={ sl:=[(0, .t (.s))] },out:=.new (.tp [.t (.ls (.st .GToken)), .t (.i .i64), .t (.i .i64)]),cuts:=[(62,C1)] }
noncomputable def f120:FI:={ fid:=120,fn:=Tryz.f120,c:=af Tryz.f120,ins:={ sl:=[(0, .t (.s))],ob:=[] },out:=.gen2 ({ sl:=[(2000000, .tp [.tp [.k (.c (.lit (.pointer none))), .t (.i .i64), .t (.i .i64)]])],ob:=[] }) ({ sl:=[(2000000, .tp [.tp [.k (.ptr 0 4 0 0), .t (.i .i64), .t (.i .i64)]])],ob:=[.box [.t (.st .GPensionref5_reader)]] }),cuts:=[] }
noncomputable def f161:FI:={ fid:=161,fn:=Tryz.f161,c:=af Tryz.f161,ins:={ sl:=[(0, .dp (.st .GPensionref5_reader)),(1, .t (.s))] },out:=.new (.t (.b)),cuts:=[] }
noncomputable def f124:FI:={ fid:=124,fn:=Tryz.f124,c:=af Tryz.f124,ins:={ sl:=[(0, .k (.ptr 0 4 0 0)),(1, .t (.s)),(1000000, .k (.ptr 0 4 0 0))],ob:=[.box [.t (.st .GPensionref5_reader)]] },out:=.gen ({ sl:=[(1000000, .k (.ptr 0 4 0 0)),(2000000, .tp [.t (.b)])],ob:=[.box [.t (.st .GPensionref5_reader)]] }),cuts:=[] }
noncomputable def f157:FI:={ fid:=157,fn:=Tryz.f157,c:=af Tryz.f157,ins:={ sl:=[(0, .k (.ptr 0 4 0 0)),(1000000, .k (.ptr 0 4 0 0))],ob:=[.box [.t (.st .GPensionref5_reader)]] },out:=.gen ({ sl:=[(1000000, .k (.ptr 0 4 0 0)),(2000000, .tp [.tp []])],ob:=[.box [.t (.st .GPensionref5_reader)]] }),cuts:=[] }
noncomputable def f121:FI:={ fid:=121,fn:=Tryz.f121,c:=af Tryz.f121,ins:={ sl:=[(0, .k (.ptr 0 4 0 0)),(1, .t (.s)),(1000000, .k (.ptr 0 4 0 0))],ob:=[.box [.t (.st .GPensionref5_reader)]] },out:=.gen ({ sl:=[(1000000, .k (.ptr 0 4 0 0)),(2000000, .tp [.tp []])],ob:=[.box [.t (.st .GPensionref5_reader)]] }),cuts:=[] }
noncomputable def f158:FI:={ fid:=158,fn:=Tryz.f158,c:=af Tryz.f158,ins:={ sl:=[(0, .dp (.st .GPensionref5_reader)),(1, .t (.i .i64))] },out:=.new (.t (.b)),cuts:=[] }
abbrev CV:Tm:={ sl:=[(0, .t (.s)),(3, .t (.i .i64))],ob:=[] }
noncomputable def f198:FI:={ fid:=198,fn:=Tryz.f198,c:=af Tryz.f198,ins:={ sl:=[(0, .t (.s))] },out:=.new (.t (.b)),cuts:=[(26,CV)] }
abbrev Dw:Tm:={ sl:=[(4, .t (.b))],ob:=[] }
noncomputable def f199:FI:={ fid:=199,fn:=Tryz.f199,c:=af Tryz.f199,ins:={ sl:=[(0, .t (.s))] },out:=.new (.t (.b)),cuts:=[(53,Dw)] }
noncomputable def f159:FI:={ fid:=159,fn:=Tryz.f159,c:=af Tryz.f159,ins:={ sl:=[(0, .t (.s))] },out:=.new (.t (.b)),cuts:=[] }
noncomputable def f122:FI:={ fid:=122,fn:=Tryz.f122,c:=af Tryz.f122,ins:={ sl:=[(0, .k (.ptr 0 4 0 0)),(1000000, .k (.ptr 0 4 0 0))],ob:=[.box [.t (.st .GPensionref5_reader)]] },out:=.gen ({ sl:=[(1000000, .k (.ptr 0 4 0 0)),(2000000, .tp [.t (.s)])],ob:=[.box [.t (.st .GPensionref5_reader)]] }),cuts:=[] }
noncomputable def f226:FI:={ fid:=226,fn:=Tryz.f226,c:=af Tryz.f226,ins:={ sl:=[(0, .t (.i .i64))] },out:=.new (.t (.i .u64)),cuts:=[] }
abbrev Qh:Tm:={ sl:=[(0, .t (.i .u64)),(2, .t (.i .i64))],ob:=[] }
abbrev OV:Tm:={ sl:=[(0, .t (.i .u64)),(2, .t (.i .i64))],ob:=[] }
noncomputable def f101:FI:={ fid:=101,fn:=Tryz.f101,c:=af Tryz.f101,ins:={ sl:=[(0, .t (.i .u64))] },out:=.new (.t (.i .i64)),cuts:=[(7,Qh),(15,OV)] }
noncomputable def f255:FI:={ fid:=255,fn:=Tryz.f255,c:=af Tryz.f255,ins:={ sl:=[(0, .t (.i .u64))] },out:=.new (.t (.i .i64)),cuts:=[] }
abbrev Iv:Tm:={ sl:=[(0, .t (.i .u64)),(1, .t (.i .u64)),(2, .t (.i .u64))],ob:=[] }
abbrev DZ:Tm:={ sl:=[(0, .t (.i .u64)),(1, .t (.i .u64)),(2, .t (.i .u64))],ob:=[] }
abbrev Kq:Tm:={ sl:=[(2, .t (.i .u64)),(8, .t (.i .u64)),(9, .t (.i .u64)),(10, .t (.i .u64)),(11, .t (.i .u64)),(13, .t (.i .u64)),(14, .t (.i .u64)),(15, .t (.i .u64))],ob:=[] }
abbrev zi:Tm:={ sl:=[(2, .t (.i .u64)),(8, .t (.i .u64)),(9, .t (.i .u64)),(10, .t (.i .u64)),(11, .t (.i .u64)),(13, .t (.i .u64)),(14, .t (.i .u64)),(15, .t (.i .u64)),(16, .t (.i .u64))],ob:=[] }
abbrev GL:Tm:={ sl:=[(2, .t (.i .u64)),(8, .t (.i .u64)),(14, .t (.i .u64)),(15, .t (.i .u64)),(17, .t (.i .u64)),(18, .t (.i .u64))],ob:=[] }
abbrev HA:Tm:={ sl:=[(2, .t (.i .u64)),(8, .t (.i .u64)),(9, .t (.i .u64)),(10, .t (.i .u64)),(14, .t (.i .u64)),(15, .t (.i .u64)),(16, .t (.i .u64)),(17, .t (.i .u64)),(18, .t (.i .u64))],ob:=[] }
noncomputable def f253:FI:={ fid:=253,fn:=Tryz.f253,c:=af Tryz.f253,ins:={ sl:=[(0, .t (.i .u64)),(1, .t (.i .u64)),(2, .t (.i .u64))] },out:=.new (.tp [.t (.i .u64), .t (.i .u64)]),cuts:=[(7,Iv),(15,DZ),(65535,Kq),(131068,zi),(1048575,GL),(2097148,HA)] }
noncomputable def f242:FI:={ fid:=242,fn:=Tryz.f242,c:=af Tryz.f242,ins:={ sl:=[(0, .t (.st .GPensionref1_wide)),(1, .t (.i .u64))] },out:=.new (.tp [.t (.st .GPensionref1_wide), .t (.i .u64)]),cuts:=[] }
abbrev CL:Tm:={ sl:=[(0, .t (.i .u64)),(1, .t (.i .u64))],ob:=[] }
noncomputable def f243:FI:={ fid:=243,fn:=Tryz.f243,c:=af Tryz.f243,ins:={ sl:=[(0, .t (.i .u64)),(1, .t (.i .u64))] },out:=.new (.t (.i .u64)),cuts:=[(12,CL)] }
noncomputable def f225:FI:={ fid:=225,fn:=Tryz.f225,c:=af Tryz.f225,ins:={ sl:=[(0, .t (.b)),(1, .t (.st .GPensionref1_wide)),(2, .t (.i .u64))] },out:=.new (.tp [.t (.st .GFraction), .t (.i .i64)]),cuts:=[] }
noncomputable def f201:FI:={ fid:=201,fn:=Tryz.f201,c:=af Tryz.f201,ins:={ sl:=[(0, .t (.i .i64)),(1, .t (.i .i64))] },out:=.new (.tp [.t (.st .GFraction), .t (.i .i64)]),cuts:=[] }
abbrev Ao:Tm:={ sl:=[(2, .k (.ptr 0 2 0 0)),(5, .t (.s)),(6, .t (.s)),(7, .t (.i .i64)),(9, .t (.i .i64)),(10, .t (.i .i64)),(11, .t (.i .i64))],ob:=[.box [.t (.st .GFraction)]] }
noncomputable def f160:FI:={ fid:=160,fn:=Tryz.f160,c:=af Tryz.f160,ins:={ sl:=[(0, .t (.s))] },out:=.new (.tp [.t (.st .GFraction), .t (.i .i64), .t (.b)]),cuts:=[(250,Ao)] }
noncomputable def f123:FI:={ fid:=123,fn:=Tryz.f123,c:=af Tryz.f123,ins:={ sl:=[(0, .k (.ptr 0 4 0 0)),(1, .t (.i .i64)),(2, .t (.i .i64)),(1000000, .k (.ptr 0 4 0 0))],ob:=[.box [.t (.st .GPensionref5_reader)]] },out:=.gen ({ sl:=[(1000000, .k (.ptr 0 4 0 0)),(2000000, .tp [.t (.i .i64)])],ob:=[.box [.t (.st .GPensionref5_reader)]] }),cuts:=[] }
noncomputable def f162:FI:={ fid:=162,fn:=Tryz.f162,c:=af Tryz.f162,ins:={ sl:=[(0, .t (.s))] },out:=.new (.t (.i .i64)),cuts:=[] }
noncomputable def f203:FI:={ fid:=203,fn:=Tryz.f203,c:=af Tryz.f203,ins:={ sl:=[(0, .t (.s))] },out:=.new (.t (.i .i64)),cuts:=[] }
noncomputable def f204:FI:={ fid:=204,fn:=Tryz.f204,c:=af Tryz.f204,ins:={ sl:=[(0, .t (.s))] },out:=.new (.t (.i .i64)),cuts:=[] }
noncomputable def f205:FI:={ fid:=205,fn:=Tryz.f205,c:=af Tryz.f205,ins:={ sl:=[(0, .t (.s))] },out:=.new (.t (.i .i64)),cuts:=[] }
noncomputable def f163:FI:={ fid:=163,fn:=Tryz.f163,c:=af Tryz.f163,ins:={ sl:=[(0, .k (.ptr 0 4 0 0)),(1, .t (.i .i64)),(1000000, .k (.ptr 0 4 0 0))],ob:=[.box [.t (.st .GPensionref5_reader)]] },out:=.gen ({ sl:=[(1000000, .k (.ptr 0 4 0 0)),(2000000, .tp [.t (.i .i64)])],ob:=[.box [.t (.st .GPensionref5_reader)]] }),cuts:=[] }
noncomputable def f250:FI:={ fid:=250,fn:=Tryz.f250,c:=af Tryz.f250,ins:={ sl:=[(0, .t (.i .i64))] },out:=.new (.t (.i .i64)),cuts:=[] }
noncomputable def f246:FI:={ fid:=246,fn:=Tryz.f246,c:=af Tryz.f246,ins:={ sl:=[(0, .k (.ptr 0 4 0 0)),(1, .t (.i .i64)),(1000000, .k (.ptr 0 4 0 0))],ob:=[.box [.t (.st .GPensionref5_reader)]] },out:=.gen ({ sl:=[(1000000, .k (.ptr 0 4 0 0)),(2000000, .tp [.t (.st .GExpr)])],ob:=[.box [.t (.st .GPensionref5_reader)]] }),cuts:=[] }
noncomputable def f229:FI:={ fid:=229,fn:=Tryz.f229,c:=af Tryz.f229,ins:={ sl:=[(0, .k (.ptr 0 4 0 0)),(1000000, .k (.ptr 0 4 0 0))],ob:=[.box [.t (.st .GPensionref5_reader)]] },out:=.gen ({ sl:=[(1000000, .k (.ptr 0 4 0 0)),(2000000, .tp [.t (.st .GExpr)])],ob:=[.box [.t (.st .GPensionref5_reader)]] }),cuts:=[] }
abbrev tS:Tm:={ sl:=[(3, .t (.i .i64)),(12, .t (.b))],ob:=[] }
noncomputable def f247:FI:={ fid:=247,fn:=Tryz.f247,c:=af Tryz.f247,ins:={ sl:=[(0, .t (.i .i64))] },out:=.new (.t (.i .i64)),cuts:=[(13823,tS)] }
noncomputable def f248:FI:={ fid:=248,fn:=Tryz.f248,c:=af Tryz.f248,ins:={ sl:=[(0, .t (.i .i64))] },out:=.new (.t (.s)),cuts:=[] }
abbrev Cu:Tm:={ sl:=[(0, .dp (.st .GPensionref5_reader)),(1, .t (.i .i64)),(5, .t (.i .i64))],ob:=[] }
noncomputable def f230:FI:={ fid:=230,fn:=Tryz.f230,c:=af Tryz.f230,ins:={ sl:=[(0, .dp (.st .GPensionref5_reader)),(1, .t (.i .i64))] },out:=.new (.t (.i .i64)),cuts:=[(26,Cu)] }
abbrev zA:Tm:={ sl:=[(0, .k (.ptr 0 4 0 0)),(1, .t (.i .i64)),(4, .k (.ptr 1 6 0 0)),(8, .k (.ptr 2 6 0 0)),(1000000, .k (.ptr 0 4 0 0))],ob:=[.box [.t (.st .GPensionref5_reader)], .box [.t (.i .i64), .t (.st .GFraction), .t (.i .i64), .t (.s), .k (.c .nil)], .box [.t (.i .i64), .t (.st .GFraction), .t (.i .i64), .t (.s), .t (.ls (.st .GExpr))]] }
noncomputable def f206:FI:={ fid:=206,fn:=Tryz.f206,c:=af Tryz.f206,ins:={ sl:=[(0, .k (.ptr 0 4 0 0)),(1, .t (.i .i64)),(1000000, .k (.ptr 0 4 0 0))],ob:=[.box [.t (.st .GPensionref5_reader)]] },out:=.gen ({ sl:=[(1000000, .k (.ptr 0 4 0 0)),(2000000, .tp [.t (.st .GExpr)])],ob:=[.box [.t (.st .GPensionref5_reader)]] }),cuts:=[(124,zA)] }
abbrev zx:Tm:={ sl:=[(0, .k (.ptr 0 4 0 0)),(1000000, .k (.ptr 0 4 0 0)),(1000001, .k (.ptr 1 8 0 0))],ob:=[.box [.t (.st .GPensionref5_reader)], .box [.t (.i .i64), .t (.st .GRounding), .k (.row 2 2), .k (.row 3 3), .k (.row 4 7), .k (.row 5 13), .k (.row 6 7)], .row 251 (.st .GCredit), .row 253 (.st .GIndex), .row 258 (.st .GLet), .row 261 (.st .GGrant), .row 263 (.st .GReduce)] }
abbrev wq:Tm:={ sl:=[(0, .k (.ptr 0 4 0 0)),(1, .k (.ptr 1 8 0 0)),(4, .k (.ptr 2 2 0 0)),(1000000, .k (.ptr 0 4 0 0)),(1000001, .k (.ptr 1 8 0 0))],ob:=[.box [.t (.st .GPensionref5_reader)], .box [.t (.i .i64), .t (.st .GRounding), .k (.row 3 2), .k (.row 4 3), .k (.row 5 7), .k (.row 6 13), .k (.row 7 7)], .box [.t (.st .GCredit)], .row 251 (.st .GCredit), .row 253 (.st .GIndex), .row 258 (.st .GLet), .row 261 (.st .GGrant), .row 263 (.st .GReduce)] }
abbrev ue:Tm:={ sl:=[(0, .k (.ptr 0 4 0 0)),(1, .k (.ptr 1 8 0 0)),(6, .k (.ptr 2 3 0 0)),(1000000, .k (.ptr 0 4 0 0)),(1000001, .k (.ptr 1 8 0 0))],ob:=[.box [.t (.st .GPensionref5_reader)], .box [.t (.i .i64), .t (.st .GRounding), .k (.row 3 2), .k (.row 4 3), .k (.row 5 7), .k (.row 6 13), .k (.row 7 7)], .box [.t (.st .GIndex)], .row 251 (.st .GCredit), .row 253 (.st .GIndex), .row 258 (.st .GLet), .row 261 (.st .GGrant), .row 263 (.st .GReduce)] }
abbrev tZ:Tm:={ sl:=[(0, .k (.ptr 0 4 0 0)),(1, .k (.ptr 1 8 0 0)),(6, .k (.ptr 2 3 0 0)),(1000000, .k (.ptr 0 4 0 0)),(1000001, .k (.ptr 1 8 0 0))],ob:=[.box [.t (.st .GPensionref5_reader)], .box [.t (.i .i64), .t (.st .GRounding), .k (.row 3 2), .k (.row 4 3), .k (.row 5 7), .k (.row 6 13), .k (.row 7 7)], .box [.t (.st .GIndex)], .row 251 (.st .GCredit), .row 253 (.st .GIndex), .row 258 (.st .GLet), .row 261 (.st .GGrant), .row 263 (.st .GReduce)] }
noncomputable def gu:FI:={ fid:=164,fn:=Tryz.f164,c:=af Tryz.f164,ins:={ sl:=[(0, .k (.ptr 0 4 0 0)),(1, .k (.ptr 1 8 0 0)),(1000000, .k (.ptr 0 4 0 0)),(1000001, .k (.ptr 1 8 0 0))],ob:=[.box [.t (.st .GPensionref5_reader)], .box [.t (.i .i64), .t (.st .GRounding), .k (.row 2 2), .k (.row 3 3), .k (.row 4 7), .k (.row 5 13), .k (.row 6 7)], .row 251 (.st .GCredit), .row 253 (.st .GIndex), .row 258 (.st .GLet), .row 261 (.st .GGrant), .row 263 (.st .GReduce)] },out:=.gen ({ sl:=[(1000000, .k (.ptr 0 4 0 0)),(1000001, .k (.ptr 1 8 0 0)),(2000000, .tp [.tp []])],ob:=[.box [.t (.st .GPensionref5_reader)], .box [.t (.i .i64), .t (.st .GRounding), .k (.row 2 2), .k (.row 3 3), .k (.row 4 7), .k (.row 5 13), .k (.row 6 7)], .row 251 (.st .GCredit), .row 253 (.st .GIndex), .row 258 (.st .GLet), .row 261 (.st .GGrant), .row 263 (.st .GReduce)] }),cuts:=[(3,zx),(75,wq),(315,ue),(631,tZ)] }
abbrev CH:Tm:={ sl:=[(0, .k (.ptr 0 4 0 0)),(2, .k (.ptr 1 8 0 0)),(3, .k (.ptr 2 8 0 0)),(1000000, .k (.ptr 0 4 0 0))],ob:=[.box [.t (.st .GPensionref5_reader)], .box [.t (.i .i64), .t (.st .GRounding), .k (.c .nil), .k (.c .nil), .k (.c .nil), .k (.c .nil), .k (.c .nil)], .box [.t (.i .i64), .t (.st .GRounding), .k (.c .nil), .k (.c .nil), .k (.c .nil), .k (.c .nil), .k (.c .nil)]] }
abbrev xr:Tm:={ sl:=[(0, .k (.ptr 0 4 0 0)),(2, .k (.ptr 1 8 0 0)),(3, .k (.ptr 2 8 0 0)),(1000000, .k (.ptr 0 4 0 0))],ob:=[.box [.t (.st .GPensionref5_reader)], .box [.t (.i .i64), .t (.st .GRounding), .k (.c .nil), .k (.c .nil), .k (.c .nil), .k (.c .nil), .k (.c .nil)], .box [.t (.i .i64), .t (.st .GRounding), .k (.row 3 2), .k (.row 4 3), .k (.row 5 7), .k (.row 6 13), .k (.row 7 7)], .row 251 (.st .GCredit), .row 253 (.st .GIndex), .row 258 (.st .GLet), .row 261 (.st .GGrant), .row 263 (.st .GReduce)] }
noncomputable def f125:FI:={ fid:=125,fn:=Tryz.f125,c:=af Tryz.f125,ins:={ sl:=[(0, .k (.ptr 0 4 0 0)),(1000000, .k (.ptr 0 4 0 0))],ob:=[.box [.t (.st .GPensionref5_reader)]] },out:=.gen ({ sl:=[(1000000, .k (.ptr 0 4 0 0)),(2000000, .tp [.t (.st .GVersion)])],ob:=[.box [.t (.st .GPensionref5_reader)]] }),cuts:=[(31,CH),(4092,xr)] }
noncomputable def f126:FI:={ fid:=126,fn:=Tryz.f126,c:=af Tryz.f126,ins:={ sl:=[(0, .dp (.st .GPensionref5_reader))] },out:=.new (.t (.i .i64)),cuts:=[] }
noncomputable def f207:FI:={ fid:=207,fn:=Tryz.f207,c:=af Tryz.f207,ins:={ sl:=[(0, .t (.st .GRounding))] },out:=.new (.t (.b)),cuts:=[] }
abbrev Cq:Tm:={ sl:=[(0, .t (.i .i64)),(1, .t (.i .i64)),(5, .k (.row 0 1)),(6, .t (.i .i64))],ob:=[.row 9 (.s)] }
noncomputable def f208:FI:={ fid:=208,fn:=Tryz.f208,c:=af Tryz.f208,ins:={ sl:=[(0, .t (.i .i64)),(1, .t (.i .i64))] },out:=.new (.t (.s)),cuts:=[(58,Cq)] }
noncomputable def f231:FI:={ fid:=231,fn:=Tryz.f231,c:=af Tryz.f231,ins:={ sl:=[(0, .t (.st .GFraction))] },out:=.new (.t (.b)),cuts:=[] }
abbrev CJ:Tm:={ sl:=[(0, .t (.i .i64)),(1, .t (.i .i64)),(5, .t (.s))],ob:=[] }
noncomputable def f249:FI:={ fid:=249,fn:=Tryz.f249,c:=af Tryz.f249,ins:={ sl:=[(0, .t (.i .i64)),(1, .t (.i .i64))] },out:=.new (.t (.s)),cuts:=[(28,CJ)] }
abbrev Cw:Tm:={ sl:=[(1, .k (.ptr 0 2 0 0)),(3, .t (.s))],ob:=[.box [.t (.st .GFraction)]] }
noncomputable def f232:FI:={ fid:=232,fn:=Tryz.f232,c:=af Tryz.f232,ins:={ sl:=[(0, .t (.st .GFraction))] },out:=.new (.t (.s)),cuts:=[(31,Cw)] }
abbrev xE:Tm:={ sl:=[(1, .t (.i .i64)),(7, .t (.s)),(8, .t (.i .i64)),(9, .t (.i .i64))],ob:=[] }
noncomputable def f209:FI:={ fid:=209,fn:=Tryz.f209,c:=af Tryz.f209,ins:={ sl:=[(0, .t (.st .GFraction)),(1, .t (.i .i64))] },out:=.new (.tp [.t (.s), .t (.b)]),cuts:=[(2042,xE)] }
abbrev Dl:Tm:={ sl:=[(1, .k (.ptr 0 6 0 0)),(3, .t (.i .i64)),(4, .t (.i .i64))],ob:=[.box [.t (.i .i64), .t (.st .GFraction), .t (.i .i64), .t (.s), .t (.ls (.st .GExpr))]] }
noncomputable def f233:FI:={ fid:=233,fn:=Tryz.f233,c:=af Tryz.f233,ins:={ sl:=[(0, .t (.st .GExpr))] },out:=.data (.t (.i .i64)),cuts:=[(58,Dl)] }
abbrev Dq:Tm:={ sl:=[(1, .k (.ptr 0 6 0 0)),(3, .t (.i .i64)),(4, .t (.i .i64))],ob:=[.box [.t (.i .i64), .t (.st .GFraction), .t (.i .i64), .t (.s), .t (.ls (.st .GExpr))]] }
noncomputable def f234:FI:={ fid:=234,fn:=Tryz.f234,c:=af Tryz.f234,ins:={ sl:=[(0, .t (.st .GExpr))] },out:=.data (.t (.i .i64)),cuts:=[(58,Dq)] }
abbrev zn:Tm:={ sl:=[(1, .k (.ptr 0 6 0 0)),(3, .t (.b)),(6, .t (.i .i64))],ob:=[.box [.t (.i .i64), .t (.st .GFraction), .t (.i .i64), .t (.s), .t (.ls (.st .GExpr))]] }
noncomputable def f235:FI:={ fid:=235,fn:=Tryz.f235,c:=af Tryz.f235,ins:={ sl:=[(0, .t (.st .GExpr))] },out:=.new (.t (.b)),cuts:=[(250,zn)] }
noncomputable def f210:FI:={ fid:=210,fn:=Tryz.f210,c:=af Tryz.f210,ins:={ sl:=[(0, .t (.st .GExpr))] },out:=.new (.t (.b)),cuts:=[] }
abbrev Dk:Tm:={ sl:=[(1, .k (.ptr 0 8 0 0)),(3, .t (.i .i64))],ob:=[.box [.t (.i .i64), .t (.st .GRounding), .t (.ls (.st .GCredit)), .t (.ls (.st .GIndex)), .t (.ls (.st .GLet)), .t (.ls (.st .GGrant)), .t (.ls (.st .GReduce))]] }
abbrev zG:Tm:={ sl:=[(1, .k (.ptr 0 8 0 0)),(4, .t (.i .i64))],ob:=[.box [.t (.i .i64), .t (.st .GRounding), .t (.ls (.st .GCredit)), .t (.ls (.st .GIndex)), .t (.ls (.st .GLet)), .t (.ls (.st .GGrant)), .t (.ls (.st .GReduce))]] }
abbrev Ap:Tm:={ sl:=[(1, .k (.ptr 0 8 0 0)),(7, .t (.i .i64))],ob:=[.box [.t (.i .i64), .t (.st .GRounding), .t (.ls (.st .GCredit)), .t (.ls (.st .GIndex)), .t (.ls (.st .GLet)), .t (.ls (.st .GGrant)), .t (.ls (.st .GReduce))]] }
abbrev zr:Tm:={ sl:=[(1, .k (.ptr 0 8 0 0)),(8, .t (.i .i64))],ob:=[.box [.t (.i .i64), .t (.st .GRounding), .t (.ls (.st .GCredit)), .t (.ls (.st .GIndex)), .t (.ls (.st .GLet)), .t (.ls (.st .GGrant)), .t (.ls (.st .GReduce))]] }
abbrev xt:Tm:={ sl:=[(1, .k (.ptr 0 8 0 0)),(9, .t (.i .i64))],ob:=[.box [.t (.i .i64), .t (.st .GRounding), .t (.ls (.st .GCredit)), .t (.ls (.st .GIndex)), .t (.ls (.st .GLet)), .t (.ls (.st .GGrant)), .t (.ls (.st .GReduce))]] }
noncomputable def f165:FI:={ fid:=165,fn:=Tryz.f165,c:=af Tryz.f165,ins:={ sl:=[(0, .t (.st .GVersion))] },out:=.new (.t (.b)),cuts:=[(58,Dk),(122,zG),(250,Ap),(506,zr),(1018,xt)] }
abbrev DA:Tm:={ sl:=[(1, .k (.ptr 0 3 0 0)),(3, .t (.i .i64))],ob:=[.box [.t (.s), .t (.i .i64), .t (.ls (.st .GVersion))]] }
noncomputable def f127:FI:={ fid:=127,fn:=Tryz.f127,c:=af Tryz.f127,ins:={ sl:=[(0, .t (.st .GStatute))] },out:=.new (.t (.b)),cuts:=[(58,DA)] }
abbrev zL:Tm:={ sl:=[(2, .k (.ptr 0 3 0 0)),(5, .k (.ptr 1 4 0 0)),(8, .k (.ptr 2 3 0 0)),(9, .t (.b))],ob:=[.box [.t (.s), .t (.i .i64), .k (.c .nil)], .box [.t (.st .GPensionref5_reader)], .box [.t (.s), .t (.i .i64), .k (.row 3 8)], .row 178 (.st .GVersion)] }
noncomputable def f81:FI:={ fid:=81,fn:=Tryz.f81,c:=af Tryz.f81,ins:={ sl:=[(0, .t (.s))] },out:=.data (.tp [.t (.st .GStatute), .t (.i .i64), .t (.i .i64)]),cuts:=[(4090,zL)] }
abbrev Hb:Tm:={ sl:=[(0, .t (.ls (.i .i64))),(2, .k (.ptr 0 3 0 0)),(3, .k (.ptr 1 3 0 0)),(4, .t (.i .i64))],ob:=[.box [.k (.c .nil), .k (.c .nil), .k (.c .nil)], .box [.k (.row 2 4), .k (.c .nil), .k (.row 3 4)], .row 126 (.st .GState), .row 118 (.st .GRate)] }
noncomputable def f50:FI:={ fid:=50,fn:=Tryz.f50,c:=af Tryz.f50,ins:={ sl:=[(0, .t (.ls (.i .i64)))],ob:=[] },out:=.gen ({ sl:=[(2000000, .tp [.ag [.k (.row 0 4), .k (.row 1 5), .k (.row 2 4)]])],ob:=[.row 126 (.st .GState), .row 42 (.st .GRules), .row 118 (.st .GRate)] }),cuts:=[(58,Hb)] }
abbrev JI:Tm:={ sl:=[(1, .t (.i .i64)),(5, .k (.row 0 5)),(6, .t (.i .i64))],ob:=[.row 42 (.st .GRules)] }
noncomputable def f19:FI:={ fid:=19,fn:=Tryz.f19,c:=af Tryz.f19,ins:={ sl:=[(0, .t (.ls (.i .i64))),(1, .t (.i .i64))] },out:=.own false 42 (.st .GRules),cuts:=[(234,JI)] }
noncomputable def f20:FI:={ fid:=20,fn:=Tryz.f20,c:=af Tryz.f20,ins:={ sl:=[(0, .t (.i .i64)),(1, .t (.b))] },out:=.new (.t (.i .i64)),cuts:=[] }
abbrev Qi:Tm:={ sl:=[(0, .t (.ls (.st .GRules))),(1, .t (.i .i64)),(4, .k (.ptr 0 5 0 0)),(6, .t (.i .i64))],ob:=[.box [.t (.st .GRules)]] }
noncomputable def f51:FI:={ fid:=51,fn:=Tryz.f51,c:=af Tryz.f51,ins:={ sl:=[(0, .t (.ls (.st .GRules))),(1, .t (.i .i64))] },out:=.new (.tp [.t (.st .GRules), .t (.b)]),cuts:=[(26,Qi)] }
abbrev Pc:Tm:={ sl:=[(0, .t (.ls (.st .GRules))),(3, .t (.i .i64))],ob:=[] }
abbrev MY:Tm:={ sl:=[(0, .t (.ls (.st .GRules))),(3, .t (.i .i64)),(4, .k (.ptr 0 5 0 0)),(5, .t (.i .i64))],ob:=[.box [.t (.st .GRules)]] }
noncomputable def f52:FI:={ fid:=52,fn:=Tryz.f52,c:=af Tryz.f52,ins:={ sl:=[(0, .t (.ls (.st .GRules)))] },out:=.new (.t (.i .i64)),cuts:=[(122,Pc),(31310,MY)] }
noncomputable def f53:FI:={ fid:=53,fn:=Tryz.f53,c:=af Tryz.f53,ins:={ sl:=[(0, .t (.st .GSpan)),(1, .t (.i .i64))] },out:=.new (.t (.b)),cuts:=[] }
abbrev Ps:Tm:={ sl:=[(0, .t (.ls (.st .GFact))),(1, .t (.i .i64)),(4, .k (.ptr 0 1 0 0)),(5, .k (.ptr 1 1 0 0)),(6, .t (.i .i64))],ob:=[.row 184 (.i .i64), .row 184 (.i .i64)] }
noncomputable def f130:FI:={ fid:=130,fn:=Tryz.f130,c:=af Tryz.f130,ins:={ sl:=[(0, .t (.ls (.st .GFact))),(1, .t (.i .i64))] },out:=.new (.t (.arr 6 (.i .i64))),cuts:=[(58,Ps)] }
abbrev CR:Tm:={ sl:=[(0, .t (.ls (.st .GFact))),(1, .t (.i .i64)),(6, .k (.row 0 14)),(7, .t (.i .i64)),(8, .t (.i .i64))],ob:=[.row 38 (.st .GFact)] }
noncomputable def f22:FI:={ fid:=22,fn:=Tryz.f22,c:=af Tryz.f22,ins:={ sl:=[(0, .t (.ls (.st .GFact))),(1, .t (.i .i64))] },out:=.new (.tp [.t (.i .i64), .t (.b)]),cuts:=[(122,CR)] }
abbrev O6:Tm:={ sl:=[(0, .t (.ls (.st .GFact))),(1, .t (.i .i64)),(5, .t (.ls (.i .i64))),(6, .t (.i .i64))],ob:=[] }
noncomputable def f131:FI:={ fid:=131,fn:=Tryz.f131,c:=af Tryz.f131,ins:={ sl:=[(0, .t (.ls (.st .GFact))),(1, .t (.i .i64))] },out:=.data (.t (.ls (.i .i64))),cuts:=[(58,O6)] }
abbrev PI:Tm:={ sl:=[(0, .t (.ls (.st .GFact))),(1, .t (.ls (.st .GFact))),(3, .t (.i .i64)),(6, .k (.ptr 0 5 0 0)),(10, .k (.ptr 1 1 0 0)),(11, .t (.i .i64)),(12, .t (.i .i64)),(13, .t (.i .i64)),(14, .t (.i .i64))],ob:=[.box [.t (.st .GRules)], .row 184 (.i .i64)] }
noncomputable def f84:FI:={ fid:=84,fn:=Tryz.f84,c:=af Tryz.f84,ins:={ sl:=[(0, .t (.ls (.st .GFact))),(1, .t (.ls (.st .GFact))),(2, .t (.st .GRules)),(3, .t (.i .i64))] },out:=.new (.tp [.t (.i .i64), .t (.b)]),cuts:=[(122,PI)] }
abbrev P8:Tm:={ sl:=[(0, .t (.ls (.st .GFact))),(1, .t (.ls (.st .GFact))),(2, .t (.ls (.st .GPosting))),(4, .t (.i .i64)),(8, .k (.ptr 0 5 0 0)),(12, .t (.i .i64)),(13, .t (.i .i64))],ob:=[.box [.t (.st .GRules)]] }
abbrev PB:Tm:={ sl:=[(0, .t (.ls (.st .GFact))),(1, .t (.ls (.st .GFact))),(4, .t (.i .i64)),(8, .k (.ptr 0 5 0 0)),(12, .t (.i .i64)),(14, .t (.i .i64))],ob:=[.box [.t (.st .GRules)]] }
abbrev OC:Tm:={ sl:=[(0, .t (.ls (.st .GFact))),(1, .t (.ls (.st .GFact))),(4, .t (.i .i64)),(12, .t (.i .i64)),(17, .t (.i .i64))],ob:=[] }
noncomputable def f54:FI:={ fid:=54,fn:=Tryz.f54,c:=af Tryz.f54,ins:={ sl:=[(0, .t (.ls (.st .GFact))),(1, .t (.ls (.st .GFact))),(2, .t (.ls (.st .GPosting))),(3, .t (.st .GRules)),(4, .t (.i .i64))] },out:=.new (.tp [.t (.i .i64), .t (.i .i64)]),cuts:=[(58,P8),(250,PB),(2042,OC)] }
noncomputable def f21:FI:={ fid:=21,fn:=Tryz.f21,c:=af Tryz.f21,ins:={ sl:=[(0, .t (.ls (.st .GFact))),(1, .t (.ls (.st .GRules))),(2, .t (.i .i64))] },out:=.new (.tp [.t (.i .i64), .t (.i .i64)]),cuts:=[] }
noncomputable def f5:FI:={ fid:=5,fn:=Tryz.f5,c:=af Tryz.f5,ins:={ sl:=[(0, .t (.ls (.st .GPensionhand_Fact))),(1, .t (.ls (.i .i64))),(2, .t (.b)),(3, .t (.i .i64)),(4, .t (.i .i64))] },out:=.new (.t (.b)),cuts:=[] }
abbrev Ii:Tm:={ sl:=[(0, .t (.ls (.st .GPensionhand_Fact))),(1, .t (.ls (.i .i64))),(2, .t (.i .i64)),(7, .k (.row 0 14)),(8, .t (.i .i64))],ob:=[.row 38 (.st .GFact)] }
noncomputable def f6:FI:={ fid:=6,fn:=Tryz.f6,c:=af Tryz.f6,ins:={ sl:=[(0, .t (.ls (.st .GPensionhand_Fact))),(1, .t (.ls (.i .i64))),(2, .t (.i .i64))] },out:=.new (.t (.b)),cuts:=[(122,Ii)] }
abbrev Qq:Tm:={ sl:=[(1, .k (.ptr 0 5 0 0)),(3, .k (.row 1 1)),(18, .t (.ls (.st .GFact))),(19, .t (.i .i64)),(20, .t (.i .i64))],ob:=[.box [.t (.st .GCompetence_life)], .row 3 (.i .i64)] }
abbrev PD:Tm:={ sl:=[(1, .k (.ptr 0 5 0 0)),(3, .k (.row 1 1)),(35, .t (.ls (.st .GRules))),(36, .t (.i .i64)),(37, .t (.i .i64))],ob:=[.box [.t (.st .GCompetence_life)], .row 3 (.i .i64)] }
abbrev M6:Tm:={ sl:=[(1, .k (.ptr 0 5 0 0)),(3, .k (.row 1 1)),(7, .k (.ptr 2 5 0 0)),(35, .t (.ls (.st .GRules))),(36, .t (.i .i64)),(37, .t (.i .i64)),(47, .t (.ls (.st .GPosting))),(48, .t (.i .i64)),(49, .t (.i .i64))],ob:=[.box [.t (.st .GCompetence_life)], .row 3 (.i .i64), .box [.t (.st .GRules)]] }
noncomputable def f58:FI:={ fid:=58,fn:=Tryz.f58,c:=af Tryz.f58,ins:={ sl:=[(0, .t (.st .GCompetence_life))] },out:=.own true 3 (.i .i64),cuts:=[(58,Qq),(122,PD),(62670,M6)] }
abbrev Px:Tm:={ sl:=[(5, .k (.ptr 0 5 0 0)),(7, .k (.row 1 4)),(8, .k (.row 2 1)),(9, .t (.i .i64))],ob:=[.box [.t (.st .GCompetence_life)], .row 62 (.st .GSegment), .row 3 (.i .i64)] }
noncomputable def f28:FI:={ fid:=28,fn:=Tryz.f28,c:=af Tryz.f28,ins:={ sl:=[(0, .t (.ls (.st .GFact))),(1, .t (.ls (.st .GRules)))] },out:=.own true 62 (.st .GSegment),cuts:=[(506,Px)] }
abbrev Pn:Tm:={ sl:=[(0, .t (.ls (.st .GFact))),(1, .t (.ls (.st .GRules))),(5, .k (.row 0 14)),(6, .k (.row 1 4)),(7, .k (.ptr 2 2 0 0)),(8, .t (.ls (.i .i64))),(9, .t (.i .i64))],ob:=[.row 38 (.st .GFact), .row 32 (.st .GPosting), .box [.t (.st .GSpan)]] }
abbrev PA:Tm:={ sl:=[(0, .t (.ls (.st .GFact))),(1, .t (.ls (.st .GRules))),(5, .k (.row 0 14)),(6, .k (.row 1 4)),(7, .k (.ptr 2 2 0 0)),(8, .t (.ls (.i .i64))),(10, .t (.i .i64))],ob:=[.row 38 (.st .GFact), .row 32 (.st .GPosting), .box [.t (.st .GSpan)]] }
abbrev N2:Tm:={ sl:=[(0, .t (.ls (.st .GFact))),(1, .t (.ls (.st .GRules))),(5, .k (.row 0 14)),(6, .k (.row 1 4)),(7, .k (.ptr 2 2 0 0)),(8, .t (.ls (.i .i64))),(12, .t (.i .i64))],ob:=[.row 38 (.st .GFact), .row 32 (.st .GPosting), .box [.t (.st .GSpan)]] }
abbrev NK:Tm:={ sl:=[(0, .t (.ls (.st .GFact))),(1, .t (.ls (.st .GRules))),(5, .k (.row 0 14)),(6, .k (.row 1 4)),(7, .k (.ptr 2 2 0 0)),(8, .t (.ls (.i .i64))),(13, .k (.row 3 4)),(14, .t (.i .i64))],ob:=[.row 38 (.st .GFact), .row 32 (.st .GPosting), .box [.t (.st .GSpan)], .row 62 (.st .GSegment)] }
abbrev Mj:Tm:={ sl:=[(0, .t (.ls (.st .GFact))),(1, .t (.ls (.st .GRules))),(5, .k (.row 0 14)),(6, .k (.row 1 4)),(7, .k (.ptr 2 2 0 0)),(8, .t (.ls (.i .i64))),(10, .t (.i .i64)),(11, .t (.i .i64))],ob:=[.row 38 (.st .GFact), .row 32 (.st .GPosting), .box [.t (.st .GSpan)]] }
noncomputable def f23:FI:={ fid:=23,fn:=Tryz.f23,c:=af Tryz.f23,ins:={ sl:=[(0, .t (.ls (.st .GFact))),(1, .t (.ls (.st .GRules)))] },out:=.own true 62 (.st .GSegment),cuts:=[(250,Pn),(506,PA),(1018,N2),(4090,NK),(64806,Mj)] }
abbrev P2:Tm:={ sl:=[(0, .t (.ls (.st .GSegment))),(1, .t (.ls (.st .GSegment))),(5, .t (.i .i64))],ob:=[] }
noncomputable def f27:FI:={ fid:=27,fn:=Tryz.f27,c:=af Tryz.f27,ins:={ sl:=[(0, .t (.ls (.st .GSegment))),(1, .t (.ls (.st .GSegment)))] },out:=.new (.t (.b)),cuts:=[(58,P2)] }
noncomputable def f8:FI:={ fid:=8,fn:=Tryz.f8,c:=af Tryz.f8,ins:={ sl:=[(0, .t (.ls (.st .GPensionhand_Fact))),(1, .t (.ls (.i .i64))),(2, .t (.b)),(3, .t (.i .i64))] },out:=.new (.t (.b)),cuts:=[] }
abbrev Pa:Tm:={ sl:=[(4, .t (.i .i64)),(13, .k (.row 0 4)),(14, .t (.i .i64)),(15, .t (.i .i64)),(16, .t (.i .i64)),(17, .t (.i .i64))],ob:=[.row 62 (.st .GSegment)] }
noncomputable def f9:FI:={ fid:=9,fn:=Tryz.f9,c:=af Tryz.f9,ins:={ sl:=[(0, .t (.ls (.st .GPensionhand_Fact))),(1, .t (.ls (.i .i64))),(2, .t (.b)),(3, .t (.i .i64)),(4, .t (.i .i64))] },out:=.new (.t (.b)),cuts:=[(2042,Pa)] }
noncomputable def NJ:XT→HP f251.ins.tys→Option (HP f251.out.tys):=fun _ (a:ByteArray × Int)=>some (Go.firstIdx a.1 a.2.toNat.toUInt8)
noncomputable def PZ:XT→HP f74.ins.tys→Option (HP f74.out.tys):=fun _ (a:List GRules × Int)=>lO a.1 a.2
noncomputable def Tb:iu:={ P:=Tryz.prog,fs:=[(15,[f15]),(42,[f42]),(59,[f59]),(30,[f30]),(29,[f29]),(44,[f44]),(106,[f106]),(71,[f71]),(45,[f45]),(46,[f46]),(107,[LQ,f107]),(72,[f72]),(47,[f47]),(17,[f17]),(43,[f43]),(16,[f16]),(11,[f11]),(137,[f137]),(140,[f140]),(238,[f238]),(219,[f219]),(193,[f193]),(139,[f139]),(138,[f138]),(141,[f141]),(142,[f142]),(90,[f90]),(61,[f61]),(60,[f60]),(31,[f31]),(91,[f91]),(63,[f63]),(64,[f64]),(33,[f33]),(85,[f85]),(56,[f56]),(62,[f62]),(32,[f32]),(12,[f12]),(38,[f38]),(105,[f105]),(69,[f69]),(70,[f70]),(40,[f40]),(148,[f148]),(55,[f55]),(102,[f102]),(83,[f83]),(103,[f103]),(104,[f104]),(68,[f68]),(39,[f39]),(41,[f41]),(13,[f13]),(109,[f109]),(149,[f149]),(108,[f108]),(73,[f73]),(48,[f48]),(75,[f75]),(76,[f76]),(153,[f153]),(116,[f116]),(112,[f112]),(77,[f77]),(155,[f155]),(196,[f196]),(154,[f154]),(119,[f119]),(80,[f80]),(115,[f115]),(78,[f78]),(67,[f67]),(37,[f37]),(118,[f118]),(117,[f117]),(79,[f79]),(49,[f49]),(18,[f18]),(14,[f14]),(3,[f3]),(4,[f4]),(128,[f128]),(166,[f166]),(129,[f129]),(82,[f82]),(220,[f220]),(221,[f221]),(223,[f223]),(222,[f222]),(200,[f200]),(227,[f227]),(254,[f254]),(244,[f244]),(245,[f245]),(228,[f228]),(202,[f202]),(224,[f224]),(197,[f197]),(156,[f156]),(120,[f120]),(161,[f161]),(124,[f124]),(157,[f157]),(121,[f121]),(158,[f158]),(198,[f198]),(199,[f199]),(159,[f159]),(122,[f122]),(226,[f226]),(101,[f101]),(255,[f255]),(253,[f253]),(242,[f242]),(243,[f243]),(225,[f225]),(201,[f201]),(160,[f160]),(123,[f123]),(162,[f162]),(203,[f203]),(204,[f204]),(205,[f205]),(163,[f163]),(250,[f250]),(246,[f246]),(229,[f229]),(247,[f247]),(248,[f248]),(230,[f230]),(206,[f206]),(164,[gu]),(125,[f125]),(126,[f126]),(207,[f207]),(208,[f208]),(231,[f231]),(249,[f249]),(232,[f232]),(209,[f209]),(233,[f233]),(234,[f234]),(235,[f235]),(210,[f210]),(165,[f165]),(127,[f127]),(81,[f81]),(50,[f50]),(19,[f19]),(20,[f20]),(51,[f51]),(52,[f52]),(53,[f53]),(130,[f130]),(22,[f22]),(131,[f131]),(84,[f84]),(54,[f54]),(21,[f21]),(5,[f5]),(6,[f6]),(58,[f58]),(28,[f28]),(23,[f23]),(27,[f27]),(8,[f8]),(9,[f9])],sp:=(fun f=>(bif Nat.beq f 74 then .hand f74 PZ else (bif Nat.beq f 251 then .hand f251 NJ else (bif Nat.beq f 114 then .mut (fun _=>FY 152) else (bif Nat.beq f 113 then .mut (fun _=>xW 152 3) else (bif Nat.beq f 89 then .mut (fun _=>ub) else (bif Nat.beq f 88 then .mut (fun _=>FW) else (bif Nat.beq f 86 then .mut (fun _=>oW 56 87 30 (.st .GSpan) iL) else (bif Nat.beq f 34 then .mut (fun _=>yj 35 32 (.st .GPosting) eC) else .none))))))))) }
theorem ak:gR Tb:=⟨fun f=>(.cnd (.h _) (.cnd (.h _) (.cnd (.m _) (.cnd (.m _) (.cnd (.m _) (.cnd (.m _) (.cnd (.m _) (.cnd (.m _) trivial))))))))⟩
noncomputable def qD (t0:ByteArray) (t1:Int):Option Int:=NJ (Xc Tb) (t0,t1)
noncomputable def qO (t:List GRules) (day:Int):Option (GRules × Bool):=PZ (Xc Tb) (t,day)
noncomputable def nQ (n:Int) (k:Int):Option Int:=Xf Tb f15 1 f15.ins (n,k)
noncomputable def an (n:Int) (m:Int):Option Int:=Xf Tb f42 1 f42.ins (n,m)
noncomputable def aM (n:List Int) (i:Int):Option Int:=Xf Tb f59 1 f59.ins (n,i)
noncomputable def l4 (kind:Int):Option ByteArray:=Xf Tb f44 1 f44.ins kind
noncomputable def uC (kind:Int) (c:Int):Option Bool:=Xf Tb f106 1 f106.ins (kind,c)
noncomputable def er (c:Int) (s:ByteArray) (i:Int):Option Bool:=Xf Tb f106 58 Co (c,s,i)
noncomputable def bY (kind:Int) (c:Int) (n:Int) (least:Int) (most:Int):Option Bool:=Xf Tb f71 1 f71.ins (kind,c,n,least,most)
noncomputable def sa (f:GFact):Option Bool:=Xf Tb f45 1 f45.ins f
noncomputable def sq (n:Int):Option Int:=Xf Tb f43 1 f43.ins n
noncomputable def wD (r:GPensionhand_Fact):Option GFact:=Xf Tb f16 1 f16.ins r
noncomputable def fw (xfrom:Int) (to:Int) (r:GPensionhand_Fact) (t2:GFact) (f:GFact):Option GFact:=Xf Tb f16 127 CN (xfrom,to,r,t2,f)
noncomputable def js (xfrom:Int) (to:Int) (u:ByteArray) (i:Int) (r:GPensionhand_Fact) (t2:GFact) (f:GFact):Option GFact:=Xf Tb f16 2042 zl (xfrom,to,u,i,r,t2,f)
noncomputable def bL (xfrom:Int) (to:Int) (u:ByteArray) (i:Int) (r:GPensionhand_Fact) (t2:GFact) (f:GFact):Option GFact:=Xf Tb f16 16339 xS (xfrom,to,u,i,r,t2,f)
noncomputable def wQ (kind:Int):Option ByteArray:=Xf Tb f137 1 f137.ins kind
noncomputable def m8 (t3:Int) (t6:Bool):Option ByteArray:=Xf Tb f137 215 Au (t3,t6)
noncomputable def gC (t3:Int) (t11:Bool):Option ByteArray:=Xf Tb f137 3455 xu (t3,t11)
noncomputable def gY (t3:Int) (t20:Bool):Option ByteArray:=Xf Tb f137 221183 rS (t3,t20)
noncomputable def gJ (x:Int) (low:Int) (high:Int):Option Bool:=Xf Tb f140 1 f140.ins (x,low,high)
noncomputable def lQ (s:ByteArray) (c:Int):Option Int:=Xf Tb f238 1 f238.ins (s,c)
noncomputable def oO (s:ByteArray) (substr:ByteArray):Option Int:=Xf Tb f219 1 f219.ins (s,substr)
noncomputable def vH (s:ByteArray) (substr:ByteArray):Option Int:=Xf Tb f193 1 f193.ins (s,substr)
noncomputable def pI (s:ByteArray) (substr:ByteArray):Option Bool:=Xf Tb f139 1 f139.ins (s,substr)
noncomputable def bB (letter:ByteArray) (t1:ByteArray):Option Bool:=Xf Tb f138 1 f138.ins (letter,t1)
noncomputable def ck (used:Bool) (x:Int) (low:Int) (high:Int):Option Bool:=Xf Tb f141 1 f141.ins (used,x,low,high)
noncomputable def mV (s:GSpan):Option Bool:=Xf Tb f142 1 f142.ins s
noncomputable def uy (f:GFact):Option Bool:=Xf Tb f90 1 f90.ins f
noncomputable def fK (t89:Int) (t97:Bool) (f:GFact):Option Bool:=Xf Tb f90 2007 Am (t89,t97,f)
noncomputable def gZ (f:GFact):Option Bool:=Xf Tb f61 1 f61.ins f
noncomputable def vC (l:List GFact):Option (List GFact):=Xf Tb f60 1 f60.ins l
noncomputable def bP (t8:List GFact) (t9:Int) (t10:Int) (out:List GFact):Option (List GFact):=Xf Tb f60 58 Gl (t8,t9,t10,out)
noncomputable def kh (l:List GFact):Option (List GFact):=Xf Tb f31 1 f31.ins l
noncomputable def mC (l:List GFact) (kind:Int):Option (Int × Bool):=Xf Tb f91 1 f91.ins (l,kind)
noncomputable def cK (kind:Int) (day:Int) (ok:Bool) (t10:List GFact) (t11:Int) (t12:Int):Option (Int × Bool):=Xf Tb f91 58 Ia (kind,day,ok,t10,t11,t12)
noncomputable def qg (l:List GFact):Option (Int × Bool):=Xf Tb f63 1 f63.ins l
noncomputable def qy (l:List GFact):Option (Int × Bool):=Xf Tb f64 1 f64.ins l
noncomputable def kI (l:List GFact):Option GSpan:=Xf Tb f33 1 f33.ins l
noncomputable def rQ (s:GSpan):Option GSpan:=Xf Tb f85 1 f85.ins s
noncomputable def pi (l:List GSpan):Option (List GSpan):=Xf Tb f56 1 f56.ins l
noncomputable def du (t10:List GSpan) (t11:Int) (t12:Int) (sorted:List GSpan):Option (List GSpan):=Xf Tb f56 58 GN (t10,t11,t12,sorted)
noncomputable def db (t33:Int) (t34:Int) (out:List GSpan) (t32:List GSpan):Option (List GSpan):=Xf Tb f56 506 CS (t33,t34,out,t32)
noncomputable def qJ (a:List GSpan) (b:List GSpan):Option (List GSpan):=Xf Tb f62 1 f62.ins (a,b)
noncomputable def bn (i:Int) (j:Int) (a:List GSpan) (b:List GSpan) (out:List GSpan):Option (List GSpan):=Xf Tb f62 122 Dr (i,j,a,b,out)
noncomputable def ii (i:Int) (j:Int) (a:List GSpan) (b:List GSpan) (out:List GSpan):Option (List GSpan):=Xf Tb f62 3915 zN (i,j,a,b,out)
noncomputable def uS (l:List GSpan) (s:GSpan):Option (List GSpan):=Xf Tb f32 1 f32.ins (l,s)
noncomputable def dZ (l:List GFact):Option (List GPosting):=Xf Tb f12 1 f12.ins l
noncomputable def dL (l:List GFact) (out:List GPosting) (w1s:Int) (w1l:List Int) (m2_k:List GCompetence_route) (m2_v:List (List GSpan)):Option (List GPosting):=Xf Tb f12 250 Dh (l,out,w1s,w1l,m2_k,m2_v)
noncomputable def bj (l:List GFact) (t49:Int) (t50:Int) (out:List GPosting) (r:GCompetence_route) (w2s:Int) (w2l:List Int) (t48:List GSpan) (m4_k:List GCompetence_route) (m4_v:List (List GSpan)):Option (List GPosting):=Xf Tb f12 32054 wx (l,t49,t50,out,r,w2s,w2l,t48,m4_k,m4_v)
noncomputable def i7 (l:List GFact):Option (List GFact):=Xf Tb f38 1 f38.ins l
noncomputable def cx (l:List GFact) (i:Int) (out:List GFact):Option (List GFact):=Xf Tb f38 58 Ha (l,i,out)
noncomputable def nH (l:List GFact) (kind:Int):Option (Int × Bool):=Xf Tb f105 1 f105.ins (l,kind)
noncomputable def cL (kind:Int) (day:Int) (ok:Bool) (i:Int) (c:List GFact):Option (Int × Bool):=Xf Tb f105 122 Al (kind,day,ok,i,c)
noncomputable def sk (l:List GFact):Option (Int × Bool):=Xf Tb f69 1 f69.ins l
noncomputable def rL (l:List GFact):Option (Int × Bool):=Xf Tb f70 1 f70.ins l
noncomputable def o7 (l:List GFact):Option GSpan:=Xf Tb f40 1 f40.ins l
noncomputable def qk (s:GSpan):Option (GSpan × Bool):=Xf Tb f148 1 f148.ins s
noncomputable def jW (l:List Int) (n:Int):Option (List Int):=Xf Tb f55 1 f55.ins (l,n)
noncomputable def jO (l:List Int) (n:Int) (xat:Int):Option (List Int):=Xf Tb f55 28 Gq (l,n,xat)
noncomputable def tY (lists:List (List GSpan)):Option (List Int):=Xf Tb f102 1 f102.ins lists
noncomputable def ef (lists:List (List GSpan)) (out:List Int) (i:Int):Option (List Int):=Xf Tb f102 58 Cl (lists,out,i)
noncomputable def cI (lists:List (List GSpan)) (out:List Int) (i:Int) (k:Int):Option (List Int):=Xf Tb f102 3730 wv (lists,out,i,k)
noncomputable def lk (day:Int):Option Bool:=Xf Tb f83 1 f83.ins day
noncomputable def lm (l:List GSpan) (day:Int):Option Bool:=Xf Tb f103 1 f103.ins (l,day)
noncomputable def bS (l:List GSpan) (day:Int) (i:Int):Option Bool:=Xf Tb f103 26 Cg (l,day,i)
noncomputable def zY (l:List GSpan) (s:GSpan):Option (List GSpan):=Xf Tb f104 1 f104.ins (l,s)
noncomputable def pC (a:List GSpan) (b:List GSpan) (kind:Int):Option (List GSpan):=Xf Tb f68 1 f68.ins (a,b,kind)
noncomputable def bQ (a:List GSpan) (b:List GSpan) (kind:Int) (e:List Int) (i:Int) (out:List GSpan):Option (List GSpan):=Xf Tb f68 122 De (a,b,kind,e,i,out)
noncomputable def wX (l:List GSpan) (s:GSpan):Option (List GSpan):=Xf Tb f39 1 f39.ins (l,s)
noncomputable def lZ (l:List GPosting) (p:GPosting):Option (List GPosting):=Xf Tb f41 1 f41.ins (l,p)
noncomputable def iH (l:List GPosting) (xat:Int) (p:GPosting):Option (List GPosting):=Xf Tb f41 28 HS (l,xat,p)
noncomputable def mY (l:List GFact):Option (List GPosting):=Xf Tb f13 1 f13.ins l
noncomputable def d8 (l:List GFact) (seat:Int) (c:List GFact) (out:List GPosting):Option (List GPosting):=Xf Tb f13 122 CM (l,seat,c,out)
noncomputable def cm (l:List GFact) (seat:Int) (state:Int) (c:List GFact) (out:List GPosting):Option (List GPosting):=Xf Tb f13 7826 Av (l,seat,state,c,out)
noncomputable def aW (l:List GFact) (seat:Int) (state:Int) (i:Int) (c:List GFact) (out:List GPosting) (s:List GSpan):Option (List GPosting):=Xf Tb f13 2003530 rG (l,seat,state,i,c,out,s)
noncomputable def dT (l:List GFact) (seat:Int) (state:Int) (i:Int) (c:List GFact) (out:List GPosting) (s:List GSpan):Option (List GPosting):=Xf Tb f13 4007070 sg (l,seat,state,i,c,out,s)
noncomputable def kg (day:Int):Option Bool:=Xf Tb f109 1 f109.ins day
noncomputable def gi (x:Int) (high:Int):Option Bool:=Xf Tb f149 1 f149.ins (x,high)
noncomputable def pW (r:GRules):Option Bool:=Xf Tb f108 1 f108.ins r
noncomputable def dn (t28:List Int) (t29:Int) (t30:Int) (r:GRules):Option Bool:=Xf Tb f108 58 DD (t28,t29,t30,r)
noncomputable def mn (t:List GRules):Option Int:=Xf Tb f73 1 f73.ins t
noncomputable def cB (t:List GRules) (t18:List GRules) (t19:Int) (t20:Int):Option Int:=Xf Tb f73 122 Ch (t,t18,t19,t20)
noncomputable def jU (l:List GFact) (t:List GRules):Option (GCompetence_life × Bool):=Xf Tb f48 1 f48.ins (l,t)
noncomputable def fg (s:GSpan) (day:Int):Option Bool:=Xf Tb f75 1 f75.ins (s,day)
noncomputable def dU (x:GCompetence_life) (day:Int) (limit:Int):Option (Int × Bool):=Xf Tb f76 1 f76.ins (x,day,limit)
noncomputable def df (day:Int) (limit:Int) (t11:List GPosting) (t12:Int) (t13:Int):Option (Int × Bool):=Xf Tb f76 26 Ix (day,limit,t11,t12,t13)
noncomputable def wE (s:List Int) (v:Int):Option Int:=Xf Tb f153 1 f153.ins (s,v)
noncomputable def dm (s:List Int) (v:Int) (t7:Int) (t8:Int):Option Int:=Xf Tb f153 26 Ca (s,v,t7,t8)
noncomputable def jn (s:List Int) (v:Int):Option Bool:=Xf Tb f116 1 f116.ins (s,v)
noncomputable def bK (x:GCompetence_life) (day:Int) (kinds:List Int):Option (List GFact):=Xf Tb f112 1 f112.ins (x,day,kinds)
noncomputable def bf (day:Int) (kinds:List Int) (t11:List GFact) (t12:Int) (t13:Int) (out:List GFact):Option (List GFact):=Xf Tb f112 58 Dv (day,kinds,t11,t12,t13,out)
noncomputable def eR (x:GCompetence_life) (day:Int):Option (Int × Bool):=Xf Tb f77 1 f77.ins (x,day)
noncomputable def bc (ok:Bool) (t15:Int) (t16:Int) (best:GFact) (t14:List GFact):Option (Int × Bool):=Xf Tb f77 58 Gd (ok,t15,t16,best,t14)
noncomputable def pT (s:GSpan) (t1:Int):Option Bool:=Xf Tb f155 1 f155.ins (s,t1)
noncomputable def qx (s:List GSpan) (f0:Int):Option Int:=Xf Tb f196 1 f196.ins (s,f0)
noncomputable def bJ (s:List GSpan) (f0:Int) (t7:Int) (t8:Int):Option Int:=Xf Tb f196 26 Di (s,f0,t7,t8)
noncomputable def mQ (s:List GSpan) (f0:Int):Option Bool:=Xf Tb f154 1 f154.ins (s,f0)
noncomputable def no (l:List GSpan) (day:Int):Option Bool:=Xf Tb f119 1 f119.ins (l,day)
noncomputable def dl (l:List GFact) (day:Int):Option (Int × Bool):=Xf Tb f80 1 f80.ins (l,day)
noncomputable def aQ (day:Int) (ok:Bool) (t22:List GFact) (t23:Int) (t24:Int) (best:GFact):Option (Int × Bool):=Xf Tb f80 122 Da (day,ok,t22,t23,t24,best)
noncomputable def iv (l:List GFact):Option (List Int):=Xf Tb f115 1 f115.ins l
noncomputable def dG (t6:List GFact) (t7:Int) (t8:Int) (out:List Int):Option (List Int):=Xf Tb f115 58 CK (t6,t7,t8,out)
noncomputable def bA (x:GCompetence_life) (day:Int) (substantial:Int):Option (Int × Bool):=Xf Tb f78 1 f78.ins (x,day,substantial)
noncomputable def bV (day:Int) (substantial:Int) (total:Int) (t26:Int) (t27:Int) (x:GCompetence_life) (shares_k:List Int) (shares_v:List Int) (t25:List GFact):Option (Int × Bool):=Xf Tb f78 58 It (day,substantial,total,t26,t27,x,shares_k,shares_v,t25)
noncomputable def dz (best:Int) (t118:Int) (t119:Int) (shares_k:List Int) (shares_v:List Int) (t117:List Int):Option (Int × Bool):=Xf Tb f78 65530 D8 (best,t118,t119,shares_k,shares_v,t117)
noncomputable def wk (x:Int):Option Bool:=Xf Tb f67 1 f67.ins x
noncomputable def ze (x:Int) (y:Int):Option Int:=Xf Tb f37 1 f37.ins (x,y)
noncomputable def fj (a:GFact) (b:GFact):Option Int:=Xf Tb f118 1 f118.ins (a,b)
noncomputable def sH (x:List GFact):Option GFact:=Xf Tb f117 1 f117.ins x
noncomputable def d9 (x:List GFact) (i:Int) (t4:GFact) (m:GFact):Option GFact:=Xf Tb f117 122 zZ (x,i,t4,m)
noncomputable def gc (x:GCompetence_life) (day:Int):Option (Int × Bool):=Xf Tb f79 1 f79.ins (x,day)
noncomputable def fU (x:GCompetence_life) (day:Int):Option (Int × Int):=Xf Tb f49 1 f49.ins (x,day)
noncomputable def dQ (l:List GFact) (t:List GRules) (day:Int):Option (Int × Int):=Xf Tb f18 1 f18.ins (l,t,day)
noncomputable def kN:Option Bool:=Xf Tb f14 1 f14.ins ()
noncomputable def bu (n:Int):Option ByteArray:=Xf Tb f128 1 f128.ins n
noncomputable def jw (n:Int) (s:ByteArray):Option ByteArray:=Xf Tb f128 28 CP (n,s)
noncomputable def eM (n:Int):Option ByteArray:=Xf Tb f166 1 f166.ins n
noncomputable def jK (xfrom:ByteArray) (n:List Int) (xat:Int):Option ByteArray:=Xf Tb f129 1 f129.ins (xfrom,n,xat)
noncomputable def ea (n:List Int) (xat:Int) (years:ByteArray) (s:ByteArray):Option ByteArray:=Xf Tb f129 31 DM (n,xat,years,s)
noncomputable def gU (n:List Int) (xat:Int) (years:ByteArray) (s:ByteArray):Option ByteArray:=Xf Tb f129 127 Ar (n,xat,years,s)
noncomputable def gX (n:List Int) (xat:Int) (years:ByteArray) (s:ByteArray):Option ByteArray:=Xf Tb f129 255 zT (n,xat,years,s)
noncomputable def gw (n:List Int) (xat:Int) (s:ByteArray):Option ByteArray:=Xf Tb f129 8191 wc (n,xat,s)
noncomputable def fP (n:List Int) (xat:Int) (s:ByteArray):Option ByteArray:=Xf Tb f129 65535 tz (n,xat,s)
noncomputable def wz (state:Int) (n:List Int):Option ByteArray:=Xf Tb f82 1 f82.ins (state,n)
noncomputable def lc (state:Int) (n:List Int) (s:ByteArray):Option ByteArray:=Xf Tb f82 31 GZ (state,n,s)
noncomputable def Ek (s:ByteArray) (xat:Int):Option Int:=Xf Tb f220 1 f220.ins (s,xat)
noncomputable def fe (s:ByteArray) (xat:Int) (comment:Bool):Option Int:=Xf Tb f220 28 Cc (s,xat,comment)
noncomputable def jd (c:Int):Option Bool:=Xf Tb f221 1 f221.ins c
noncomputable def iy (c:Int):Option Bool:=Xf Tb f223 1 f223.ins c
noncomputable def tT (s:ByteArray) (xat:Int) (point:Bool):Option Int:=Xf Tb f222 1 f222.ins (s,xat,point)
noncomputable def fG (s:ByteArray) (xat:Int) (point:Bool) (n:Int):Option Int:=Xf Tb f222 28 Do (s,xat,point,n)
noncomputable def oZ (s:ByteArray):Option (ByteArray × ByteArray × Int × Bool):=Xf Tb f200 1 f200.ins s
noncomputable def hZ (s:ByteArray) (dim:Int):Option (ByteArray × ByteArray × Int × Bool):=Xf Tb f200 15 DV (s,dim)
noncomputable def gm (s:ByteArray) (dim:Int) (xat:Int) (i:Int):Option (ByteArray × ByteArray × Int × Bool):=Xf Tb f200 250 zV (s,dim,xat,i)
noncomputable def jv (dim:Int) (a:ByteArray) (b:ByteArray):Option (ByteArray × ByteArray × Int × Bool):=Xf Tb f200 255 Ak (dim,a,b)
noncomputable def iE (dim:Int) (a:ByteArray) (b:ByteArray) (i:Int):Option (ByteArray × ByteArray × Int × Bool):=Xf Tb f200 2042 wg (dim,a,b,i)
noncomputable def lW (s:ByteArray):Option (Int × Bool):=Xf Tb f227 1 f227.ins s
noncomputable def kd (s:ByteArray) (n:Int) (i:Int):Option (Int × Bool):=Xf Tb f227 58 CF (s,n,i)
noncomputable def xN (year:Int):Option Bool:=Xf Tb f254 1 f254.ins year
noncomputable def nw (year:Int) (month:Int):Option Int:=Xf Tb f244 1 f244.ins (year,month)
noncomputable def tM (month:Int):Option Int:=Xf Tb f245 1 f245.ins month
noncomputable def ky (month:Int) (n:Int) (m:Int):Option Int:=Xf Tb f245 58 CX (month,n,m)
noncomputable def z7 (year:Int) (month:Int) (dom:Int):Option (Int × Bool):=Xf Tb f228 1 f228.ins (year,month,dom)
noncomputable def lj (s:ByteArray):Option (Int × Bool):=Xf Tb f202 1 f202.ins s
noncomputable def wd (s:ByteArray) (xat:Int):Option Int:=Xf Tb f224 1 f224.ins (s,xat)
noncomputable def mx (s:ByteArray) (xat:Int):Option Int:=Xf Tb f224 7 Hf (s,xat)
noncomputable def bd (t29:Bool):Option Int:=Xf Tb f224 117 Az t29
noncomputable def xc (s:ByteArray) (xat:Int):Option (GToken × Int × Int):=Xf Tb f197 1 f197.ins (s,xat)
noncomputable def dt (s:ByteArray) (xat:Int) (kind:Int) (n:Int) (ok:Bool) (t4:GToken):Option (GToken × Int × Int):=Xf Tb f197 127 zB (s,xat,kind,n,ok,t4)
noncomputable def zo (s:ByteArray):Option (List GToken × Int × Int):=Xf Tb f156 1 f156.ins s
noncomputable def mw (s:ByteArray) (xat:Int) (out:List GToken):Option (List GToken × Int × Int):=Xf Tb f156 62 C1 (s,xat,out)
noncomputable def vo (s:ByteArray):Option (Bool × Int × Int × Int × Int × GPensionref5_reader):=Xf Tb f120 1 f120.ins s
noncomputable def eo (r:GPensionref5_reader) (s:ByteArray):Option Bool:=Xf Tb f161 1 f161.ins (r,s)
noncomputable def aJ (s:ByteArray) (r:GPensionref5_reader):Option (Bool × GPensionref5_reader):=Xf Tb f124 1 f124.ins (s,r)
noncomputable def aT (r:GPensionref5_reader):Option GPensionref5_reader:=Xf Tb f157 1 f157.ins r
noncomputable def ax (s:ByteArray) (r:GPensionref5_reader):Option GPensionref5_reader:=Xf Tb f121 1 f121.ins (s,r)
noncomputable def cJ (r:GPensionref5_reader) (k:Int):Option Bool:=Xf Tb f158 1 f158.ins (r,k)
noncomputable def rW (s:ByteArray):Option Bool:=Xf Tb f198 1 f198.ins s
noncomputable def eW (s:ByteArray) (i:Int):Option Bool:=Xf Tb f198 26 CV (s,i)
noncomputable def qt (s:ByteArray):Option Bool:=Xf Tb f199 1 f199.ins s
noncomputable def aw (t4:Bool):Option Bool:=Xf Tb f199 53 Dw t4
noncomputable def i8 (s:ByteArray):Option Bool:=Xf Tb f159 1 f159.ins s
noncomputable def fE (r:GPensionref5_reader):Option (ByteArray × GPensionref5_reader):=Xf Tb f122 1 f122.ins r
noncomputable def lP (n:Int):Option Int:=Xf Tb f226 1 f226.ins n
noncomputable def pS (x:Int):Option Int:=Xf Tb f255 1 f255.ins x
noncomputable def l5 (hi:Int) (lo:Int) (y:Int):Option (Int × Int):=Xf Tb f253 1 f253.ins (hi,lo,y)
noncomputable def og (hi:Int) (lo:Int) (y:Int):Option (Int × Int):=Xf Tb f253 7 Iv (hi,lo,y)
noncomputable def mE (hi:Int) (lo:Int) (y:Int):Option (Int × Int):=Xf Tb f253 15 DZ (hi,lo,y)
noncomputable def qC (y:Int) (s:Int) (yn1:Int) (yn0:Int) (un32:Int) (un1:Int) (un0:Int) (q1:Int) (rhat:Int):Option (Int × Int):=Xf Tb f253 131068 zi (y,s,yn1,yn0,un32,un1,un0,q1,rhat)
noncomputable def kf (w:GPensionref1_wide) (d:Int):Option (GPensionref1_wide × Int):=Xf Tb f242 1 f242.ins (w,d)
noncomputable def zI (a:Int) (b:Int):Option Int:=Xf Tb f243 1 f243.ins (a,b)
noncomputable def mB (a:Int) (b:Int):Option Int:=Xf Tb f243 12 CL (a,b)
noncomputable def rM (negative:Bool) (n:GPensionref1_wide) (d:Int):Option (GFraction × Int):=Xf Tb f225 1 f225.ins (negative,n,d)
noncomputable def kF (num:Int) (den:Int):Option (GFraction × Int):=Xf Tb f201 1 f201.ins (num,den)
noncomputable def jJ (text:ByteArray):Option (GFraction × Int × Bool):=Xf Tb f160 1 f160.ins text
noncomputable def ff (a:ByteArray) (b:ByteArray) (dim:Int) (num:Int) (den:Int) (i:Int) (t2:GFraction):Option (GFraction × Int × Bool):=Xf Tb f160 250 Ao (a,b,dim,num,den,i,t2)
noncomputable def cZ (least:Int) (most:Int) (r:GPensionref5_reader):Option (Int × GPensionref5_reader):=Xf Tb f123 1 f123.ins (least,most,r)
noncomputable def AN (s:ByteArray):Option Int:=Xf Tb f162 1 f162.ins s
noncomputable def ry (s:ByteArray):Option Int:=Xf Tb f203 1 f203.ins s
noncomputable def kc (s:ByteArray):Option Int:=Xf Tb f204 1 f204.ins s
noncomputable def jV (s:ByteArray):Option Int:=Xf Tb f205 1 f205.ins s
noncomputable def fA (what:Int) (r:GPensionref5_reader):Option (Int × GPensionref5_reader):=Xf Tb f163 1 f163.ins (what,r)
noncomputable def qM (op:Int):Option Int:=Xf Tb f250 1 f250.ins op
noncomputable def fH (op:Int) (r:GPensionref5_reader):Option (GExpr × GPensionref5_reader):=Xf Tb f246 1 f246.ins (op,r)
noncomputable def jL (r:GPensionref5_reader):Option (GExpr × GPensionref5_reader):=Xf Tb f229 1 f229.ins r
noncomputable def ut (op:Int):Option Int:=Xf Tb f247 1 f247.ins op
noncomputable def cz (t3:Int) (t12:Bool):Option Int:=Xf Tb f247 13823 tS (t3,t12)
noncomputable def sy (op:Int):Option ByteArray:=Xf Tb f248 1 f248.ins op
noncomputable def jQ (r:GPensionref5_reader) (n:Int):Option Int:=Xf Tb f230 1 f230.ins (r,n)
noncomputable def dh (r:GPensionref5_reader) (n:Int) (op:Int):Option Int:=Xf Tb f230 26 Cu (r,n,op)
noncomputable def ay (n:Int) (r:GPensionref5_reader):Option (GExpr × GPensionref5_reader):=Xf Tb f206 1 f206.ins (n,r)
noncomputable def e9 (n:Int) (r:GPensionref5_reader) (Op:Int) (Value:GFraction) (Dim:Int) (Name:ByteArray) (Op2:Int) (Value2:GFraction) (Dim2:Int) (Name2:ByteArray) (Args:List GExpr):Option (GExpr × GPensionref5_reader):=Xf Tb f206 124 zA (n,r,Op,Value,Dim,Name,Op2,Value2,Dim2,Name2,Args)
noncomputable def jT (r:GPensionref5_reader) (From:Int) (Rounding:GRounding) (Credits:List GCredit) (Series:List GIndex) (Lets:List GLet) (Grants:List GGrant) (Reduces:List GReduce):Option (GPensionref5_reader × Int × GRounding × List GCredit × List GIndex × List GLet × List GGrant × List GReduce):=Xf Tb gu 1 gu.ins (r,From,Rounding,Credits,Series,Lets,Grants,Reduces)
noncomputable def bE (r:GPensionref5_reader) (From:Int) (Rounding:GRounding) (Credits:List GCredit) (Series:List GIndex) (Lets:List GLet) (Grants:List GGrant) (Reduces:List GReduce):Option (GPensionref5_reader × Int × GRounding × List GCredit × List GIndex × List GLet × List GGrant × List GReduce):=Xf Tb gu 3 zx (r,From,Rounding,Credits,Series,Lets,Grants,Reduces)
noncomputable def eu (r:GPensionref5_reader) (From:Int) (Rounding:GRounding) (c:GCredit) (Credits:List GCredit) (Series:List GIndex) (Lets:List GLet) (Grants:List GGrant) (Reduces:List GReduce):Option (GPensionref5_reader × Int × GRounding × List GCredit × List GIndex × List GLet × List GGrant × List GReduce):=Xf Tb gu 75 wq (r,From,Rounding,c,Credits,Series,Lets,Grants,Reduces)
noncomputable def cW (r:GPensionref5_reader) (From:Int) (Rounding:GRounding) (x:GIndex) (Credits:List GCredit) (Series:List GIndex) (Lets:List GLet) (Grants:List GGrant) (Reduces:List GReduce):Option (GPensionref5_reader × Int × GRounding × List GCredit × List GIndex × List GLet × List GGrant × List GReduce):=Xf Tb gu 315 ue (r,From,Rounding,x,Credits,Series,Lets,Grants,Reduces)
noncomputable def dX (r:GPensionref5_reader) (From:Int) (Rounding:GRounding) (x:GIndex) (Credits:List GCredit) (Series:List GIndex) (Lets:List GLet) (Grants:List GGrant) (Reduces:List GReduce):Option (GPensionref5_reader × Int × GRounding × List GCredit × List GIndex × List GLet × List GGrant × List GReduce):=Xf Tb gu 631 tZ (r,From,Rounding,x,Credits,Series,Lets,Grants,Reduces)
noncomputable def fR (r:GPensionref5_reader):Option (GVersion × GPensionref5_reader):=Xf Tb f125 1 f125.ins r
noncomputable def dY (r:GPensionref5_reader) (From:Int) (Rounding:GRounding) (From2:Int) (Rounding2:GRounding):Option (GVersion × GPensionref5_reader):=Xf Tb f125 31 CH (r,From,Rounding,From2,Rounding2)
noncomputable def dy (r:GPensionref5_reader) (From:Int) (Rounding:GRounding) (From2:Int) (Rounding2:GRounding) (Credits:List GCredit) (Series:List GIndex) (Lets:List GLet) (Grants:List GGrant) (Reduces:List GReduce):Option (GVersion × GPensionref5_reader):=Xf Tb f125 4092 xr (r,From,Rounding,From2,Rounding2,Credits,Series,Lets,Grants,Reduces)
noncomputable def gV (r:GPensionref5_reader):Option Int:=Xf Tb f126 1 f126.ins r
noncomputable def nR (r:GRounding):Option Bool:=Xf Tb f207 1 f207.ins r
noncomputable def kV (n:Int) (of:Int):Option ByteArray:=Xf Tb f208 1 f208.ins (n,of)
noncomputable def bI (n:Int) (of:Int) (i:Int) (l:List ByteArray):Option ByteArray:=Xf Tb f208 58 Cq (n,of,i,l)
noncomputable def gn (f:GFraction):Option Bool:=Xf Tb f231 1 f231.ins f
noncomputable def kT (n:Int) (least:Int):Option ByteArray:=Xf Tb f249 1 f249.ins (n,least)
noncomputable def jr (n:Int) (least:Int) (s:ByteArray):Option ByteArray:=Xf Tb f249 28 CJ (n,least,s)
noncomputable def jl (a:GFraction):Option ByteArray:=Xf Tb f232 1 f232.ins a
noncomputable def fY (s:ByteArray) (a:GFraction):Option ByteArray:=Xf Tb f232 31 Cw (s,a)
noncomputable def gk (value:GFraction) (dim:Int):Option (ByteArray × Bool):=Xf Tb f209 1 f209.ins (value,dim)
noncomputable def cN (dim:Int) (s:ByteArray) (rest:Int) (k:Int):Option (ByteArray × Bool):=Xf Tb f209 2042 xE (dim,s,rest,k)
noncomputable def o6 (e:GExpr):Option Int:=Xf Tb f233 1 f233.ins e
noncomputable def kx (n:Int) (i:Int) (Op:Int) (Value:GFraction) (Dim:Int) (Name:ByteArray) (Args:List GExpr):Option Int:=Xf Tb f233 58 Dl (n,i,Op,Value,Dim,Name,Args)
noncomputable def qL (e:GExpr):Option Int:=Xf Tb f234 1 f234.ins e
noncomputable def lr (n:Int) (i:Int) (Op:Int) (Value:GFraction) (Dim:Int) (Name:ByteArray) (Args:List GExpr):Option Int:=Xf Tb f234 58 Dq (n,i,Op,Value,Dim,Name,Args)
noncomputable def nK (e:GExpr):Option Bool:=Xf Tb f235 1 f235.ins e
noncomputable def iN (zero:Bool) (i:Int) (Op:Int) (Value:GFraction) (Dim:Int) (Name:ByteArray) (Args:List GExpr):Option Bool:=Xf Tb f235 250 zn (zero,i,Op,Value,Dim,Name,Args)
noncomputable def fx (e:GExpr):Option Bool:=Xf Tb f210 1 f210.ins e
noncomputable def kE (v:GVersion):Option Bool:=Xf Tb f165 1 f165.ins v
noncomputable def e8 (i:Int) (From:Int) (Rounding:GRounding) (Credits:List GCredit) (Series:List GIndex) (Lets:List GLet) (Grants:List GGrant) (Reduces:List GReduce):Option Bool:=Xf Tb f165 58 Dk (i,From,Rounding,Credits,Series,Lets,Grants,Reduces)
noncomputable def eE (i:Int) (From:Int) (Rounding:GRounding) (Credits:List GCredit) (Series:List GIndex) (Lets:List GLet) (Grants:List GGrant) (Reduces:List GReduce):Option Bool:=Xf Tb f165 122 zG (i,From,Rounding,Credits,Series,Lets,Grants,Reduces)
noncomputable def eG (i:Int) (From:Int) (Rounding:GRounding) (Credits:List GCredit) (Series:List GIndex) (Lets:List GLet) (Grants:List GGrant) (Reduces:List GReduce):Option Bool:=Xf Tb f165 250 Ap (i,From,Rounding,Credits,Series,Lets,Grants,Reduces)
noncomputable def eA (i:Int) (From:Int) (Rounding:GRounding) (Credits:List GCredit) (Series:List GIndex) (Lets:List GLet) (Grants:List GGrant) (Reduces:List GReduce):Option Bool:=Xf Tb f165 506 zr (i,From,Rounding,Credits,Series,Lets,Grants,Reduces)
noncomputable def dV (i:Int) (From:Int) (Rounding:GRounding) (Credits:List GCredit) (Series:List GIndex) (Lets:List GLet) (Grants:List GGrant) (Reduces:List GReduce):Option Bool:=Xf Tb f165 1018 xt (i,From,Rounding,Credits,Series,Lets,Grants,Reduces)
noncomputable def mt (x:GStatute):Option Bool:=Xf Tb f127 1 f127.ins x
noncomputable def ki (i:Int) (Name:ByteArray) (Currency:Int) (Versions:List GVersion):Option Bool:=Xf Tb f127 58 DA (i,Name,Currency,Versions)
noncomputable def ug (s:ByteArray):Option (GStatute × Int × Int):=Xf Tb f81 1 f81.ins s
noncomputable def ed (first:Bool) (Name:ByteArray) (Currency:Int) (r:GPensionref5_reader) (Name2:ByteArray) (Currency2:Int) (Versions:List GVersion):Option (GStatute × Int × Int):=Xf Tb f81 4090 zL (first,Name,Currency,r,Name2,Currency2,Versions)
noncomputable def xi (n:List Int):Option (List GState × List GRules × List GRate):=Xf Tb f50 1 f50.ins n
noncomputable def iR (n:List Int) (s:Int) (States:List GState) (Rates:List GRate):Option (List GState × List GRules × List GRate):=Xf Tb f50 58 Hb (n,s,States,Rates)
noncomputable def kY (n:List Int) (limit:Int):Option (List GRules):=Xf Tb f19 1 f19.ins (n,limit)
noncomputable def Ac (limit:Int) (i:Int) (t:List GRules):Option (List GRules):=Xf Tb f19 234 JI (limit,i,t)
noncomputable def me (day:Int) (dense:Bool):Option Int:=Xf Tb f20 1 f20.ins (day,dense)
noncomputable def tr (s:GSpan) (day:Int):Option Bool:=Xf Tb f53 1 f53.ins (s,day)
noncomputable def gF (l:List GFact) (day:Int):Option (Int × Bool):=Xf Tb f22 1 f22.ins (l,day)
noncomputable def aS (l:List GFact) (day:Int) (xat:Int) (i:Int) (c:List GFact):Option (Int × Bool):=Xf Tb f22 122 CR (l,day,xat,i,c)
noncomputable def nM (l:List GPensionhand_Fact) (n:List Int) (day:Int):Option Bool:=Xf Tb f6 1 f6.ins (l,n,day)
noncomputable def dS (l:List GPensionhand_Fact) (n:List Int) (day:Int) (i:Int) (a:List GFact):Option Bool:=Xf Tb f6 122 Ii (l,n,day,i,a)
end Go.Ax
