import Derived.Test.YtnnblpijaoocaaaGreatXHd
import Derived.Test.YtnnblpijaoocaaaGreatRows
set_option linter.all false
set_option maxRecDepth 100000
set_option maxHeartbeats 0
namespace Go.Ax
open Go.Proofs Go.Proofs.YtnnblpijaoocaaaGreat
/- pension/pensionmade.Pick -/
noncomputable def f15:FI:={ fid:=15,fn:=Tryz.f15,c:=ai Tryz.f15,ins:={ sl:=[(0, .t (.i .i64)),(1, .t (.i .i64))] },out:=.new (.t (.i .i64)),cuts:=[] }
noncomputable def f42:FI:={ fid:=42,fn:=Tryz.f42,c:=ai Tryz.f42,ins:={ sl:=[(0, .t (.i .i64)),(1, .t (.i .i64))] },out:=.new (.t (.i .i64)),cuts:=[] }
noncomputable def f59:FI:={ fid:=59,fn:=Tryz.f59,c:=ai Tryz.f59,ins:={ sl:=[(0, .t (.ls (.i .i64))),(1, .t (.i .i64))] },out:=.new (.t (.i .i64)),cuts:=[] }
abbrev KA:Tm:={ sl:=[(0, .t (.ls (.i .i64))),(3, .k (.row 0 14)),(4, .t (.i .i64))],ob:=[.row 38 (.st .GFact)] }
noncomputable def f30:FI:={ fid:=30,fn:=Tryz.f30,c:=ai Tryz.f30,ins:={ sl:=[(0, .t (.ls (.i .i64)))] },out:=.own true 38 (.st .GFact),cuts:=[(58,KA)] }
abbrev Lw:Tm:={ sl:=[(0, .t (.ls (.st .GFact))),(1, .t (.i .i64)),(5, .k (.row 0 14)),(6, .t (.i .i64))],ob:=[.row 38 (.st .GFact)] }
noncomputable def f29:FI:={ fid:=29,fn:=Tryz.f29,c:=ai Tryz.f29,ins:={ sl:=[(0, .t (.ls (.st .GFact))),(1, .t (.i .i64))] },out:=.own true 38 (.st .GFact),cuts:=[(58,Lw)] }
noncomputable def f44:FI:={ fid:=44,fn:=Tryz.f44,c:=ai Tryz.f44,ins:={ sl:=[(0, .t (.i .i64))] },out:=.new (.t (.s)),cuts:=[] }
abbrev F1:Tm:={ sl:=[(1, .t (.i .u8)),(5, .t (.s)),(6, .t (.i .i64))],ob:=[] }
noncomputable def f106:FI:={ fid:=106,fn:=Tryz.f106,c:=ai Tryz.f106,ins:={ sl:=[(0, .t (.i .i64)),(1, .t (.i .u8))] },out:=.new (.t (.b)),cuts:=[(58,F1)] }
noncomputable def f71:FI:={ fid:=71,fn:=Tryz.f71,c:=ai Tryz.f71,ins:={ sl:=[(0, .t (.i .i64)),(1, .t (.i .u8)),(2, .t (.i .i64)),(3, .t (.i .i64)),(4, .t (.i .i64))] },out:=.new (.t (.b)),cuts:=[] }
noncomputable def f45:FI:={ fid:=45,fn:=Tryz.f45,c:=ai Tryz.f45,ins:={ sl:=[(0, .t (.st .GFact))] },out:=.new (.t (.b)),cuts:=[] }
noncomputable def f46:FI:={ fid:=46,fn:=Tryz.f46,c:=ai Tryz.f46,ins:={ sl:=[(0, .t (.st .GFact)),(1, .t (.st .GFact))] },out:=.new (.t (.i .i64)),cuts:=[] }
abbrev TX:Tm:={ sl:=[(0, .k (.row 0 1)),(1, .t (.i .i64)),(7, .t (.i .i64))],ob:=[.row 5 (.i .u8)] }
noncomputable def f107:FI:={ fid:=107,fn:=Tryz.f107,c:=ai Tryz.f107,ins:={ sl:=[(0, .k (.c .nil)),(1, .t (.i .i64)),(2, .t (.i .i64))],ob:=[] },out:=.gen ({ sl:=[(2000000, .tp [.k (.row 0 1)])],ob:=[.row 5 (.i .u8)] }),cuts:=[(26,TX)] }
abbrev Bn:Tm:={ sl:=[(0, .k (.row 0 1)),(1, .t (.i .i64)),(7, .t (.i .i64))],ob:=[.row 5 (.i .u8)] }
noncomputable def qx:FI:={ fid:=107,fn:=Tryz.f107,c:=ai Tryz.f107,ins:={ sl:=[(0, .k (.row 0 1)),(1, .t (.i .i64)),(2, .t (.i .i64))],ob:=[.row 5 (.i .u8)] },out:=.gen ({ sl:=[(2000000, .tp [.k (.row 0 1)])],ob:=[.row 5 (.i .u8)] }),cuts:=[(26,Bn)] }
abbrev LJ:Tm:={ sl:=[(1, .k (.ptr 0 14 0 0)),(3, .t (.i .i64))],ob:=[.box [.t (.st .GFact)]] }
abbrev CK:Tm:={ sl:=[(1, .k (.ptr 0 14 0 0)),(4, .k (.row 1 1)),(5, .t (.s)),(6, .t (.i .i64))],ob:=[.box [.t (.st .GFact)], .row 5 (.i .u8)] }
abbrev DJ:Tm:={ sl:=[(1, .k (.ptr 0 14 0 0)),(4, .k (.row 1 1)),(5, .t (.s)),(6, .t (.i .i64))],ob:=[.box [.t (.st .GFact)], .row 5 (.i .u8)] }
noncomputable def f72:FI:={ fid:=72,fn:=Tryz.f72,c:=ai Tryz.f72,ins:={ sl:=[(0, .t (.st .GFact))] },out:=.own true 5 (.i .u8),cuts:=[(31,LJ),(1018,CK),(8147,DJ)] }
noncomputable def f47:FI:={ fid:=47,fn:=Tryz.f47,c:=ai Tryz.f47,ins:={ sl:=[(0, .t (.st .GFact)),(1, .t (.st .GFact))] },out:=.new (.t (.b)),cuts:=[] }
abbrev KM:Tm:={ sl:=[(0, .t (.ls (.st .GFact))),(1, .t (.ls (.st .GFact))),(5, .k (.row 0 14)),(6, .t (.i .i64))],ob:=[.row 38 (.st .GFact)] }
abbrev De:Tm:={ sl:=[(0, .t (.ls (.st .GFact))),(1, .t (.ls (.st .GFact))),(5, .k (.row 0 14)),(6, .t (.i .i64)),(7, .k (.ptr 1 14 0 0))],ob:=[.row 38 (.st .GFact), .box [.t (.st .GFact)]] }
abbrev zJ:Tm:={ sl:=[(0, .t (.ls (.st .GFact))),(1, .t (.ls (.st .GFact))),(5, .k (.row 0 14)),(6, .t (.i .i64)),(7, .k (.ptr 1 14 0 0)),(8, .t (.i .i64))],ob:=[.row 38 (.st .GFact), .box [.t (.st .GFact)]] }
noncomputable def f17:FI:={ fid:=17,fn:=Tryz.f17,c:=ai Tryz.f17,ins:={ sl:=[(0, .t (.ls (.st .GFact))),(1, .t (.ls (.st .GFact)))] },out:=.own true 38 (.st .GFact),cuts:=[(58,KM),(3731,De),(59708,zJ)] }
noncomputable def f43:FI:={ fid:=43,fn:=Tryz.f43,c:=ai Tryz.f43,ins:={ sl:=[(0, .t (.i .i64))] },out:=.new (.t (.i .i64)),cuts:=[] }
abbrev GG:Tm:={ sl:=[(1, .k (.ptr 0 13 0 0)),(2, .k (.ptr 1 14 0 0)),(3, .k (.ptr 2 14 0 0)),(4, .t (.i .i64)),(5, .t (.i .i64))],ob:=[.box [.t (.st .GPensionhand_Fact)], .box [.t (.st .GFact)], .box [.t (.st .GFact)]] }
abbrev CH:Tm:={ sl:=[(1, .k (.ptr 0 13 0 0)),(2, .k (.ptr 1 14 0 0)),(3, .k (.ptr 2 14 0 0)),(4, .t (.i .i64)),(5, .t (.i .i64)),(6, .t (.s)),(7, .t (.i .i64))],ob:=[.box [.t (.st .GPensionhand_Fact)], .box [.t (.st .GFact)], .box [.t (.st .GFact)]] }
abbrev Bl:Tm:={ sl:=[(1, .k (.ptr 0 13 0 0)),(2, .k (.ptr 1 14 0 0)),(3, .k (.ptr 2 14 0 0)),(4, .t (.i .i64)),(5, .t (.i .i64)),(6, .t (.s)),(7, .t (.i .i64))],ob:=[.box [.t (.st .GPensionhand_Fact)], .box [.t (.st .GFact)], .box [.t (.st .GFact)]] }
noncomputable def f16:FI:={ fid:=16,fn:=Tryz.f16,c:=ai Tryz.f16,ins:={ sl:=[(0, .t (.st .GPensionhand_Fact))] },out:=.new (.t (.st .GFact)),cuts:=[(127,GG),(2042,CH),(16339,Bl)] }
abbrev Mi:Tm:={ sl:=[(0, .t (.ls (.st .GPensionhand_Fact))),(1, .t (.ls (.i .i64))),(2, .t (.b)),(7, .k (.row 0 14)),(8, .t (.i .i64))],ob:=[.row 38 (.st .GFact)] }
abbrev DO:Tm:={ sl:=[(0, .t (.ls (.st .GPensionhand_Fact))),(1, .t (.ls (.i .i64))),(2, .t (.b)),(7, .k (.row 0 14)),(8, .t (.i .i64)),(9, .k (.ptr 1 13 0 0))],ob:=[.row 38 (.st .GFact), .box [.t (.st .GPensionhand_Fact)]] }
noncomputable def f11:FI:={ fid:=11,fn:=Tryz.f11,c:=ai Tryz.f11,ins:={ sl:=[(0, .t (.ls (.st .GPensionhand_Fact))),(1, .t (.ls (.i .i64))),(2, .t (.b))] },out:=.own true 38 (.st .GFact),cuts:=[(58,Mi),(7463,DO)] }
abbrev DG:Tm:={ sl:=[(3, .t (.i .i64)),(6, .t (.b))],ob:=[] }
abbrev AK:Tm:={ sl:=[(3, .t (.i .i64)),(11, .t (.b))],ob:=[] }
abbrev u4:Tm:={ sl:=[(3, .t (.i .i64)),(20, .t (.b))],ob:=[] }
noncomputable def f137:FI:={ fid:=137,fn:=Tryz.f137,c:=ai Tryz.f137,ins:={ sl:=[(0, .t (.i .i64))] },out:=.new (.t (.s)),cuts:=[(215,DG),(3455,AK),(221183,u4)] }
noncomputable def f140:FI:={ fid:=140,fn:=Tryz.f140,c:=ai Tryz.f140,ins:={ sl:=[(0, .t (.i .i64)),(1, .t (.i .i64)),(2, .t (.i .i64))] },out:=.new (.t (.b)),cuts:=[] }
noncomputable def f251:FI:={ fid:=251,fn:=Tryz.f251,c:=ai Tryz.f251,ins:={ sl:=[(0, .t (.s)),(1, .t (.i .u8))] },out:=.data (.t (.i .i64)),cuts:=[] }
noncomputable def f238:FI:={ fid:=238,fn:=Tryz.f238,c:=ai Tryz.f238,ins:={ sl:=[(0, .t (.s)),(1, .t (.i .u8))] },out:=.new (.t (.i .i64)),cuts:=[] }
noncomputable def f219:FI:={ fid:=219,fn:=Tryz.f219,c:=ai Tryz.f219,ins:={ sl:=[(0, .t (.s)),(1, .t (.s))] },out:=.new (.t (.i .i64)),cuts:=[] }
noncomputable def f193:FI:={ fid:=193,fn:=Tryz.f193,c:=ai Tryz.f193,ins:={ sl:=[(0, .t (.s)),(1, .t (.s))] },out:=.new (.t (.i .i64)),cuts:=[] }
noncomputable def f139:FI:={ fid:=139,fn:=Tryz.f139,c:=ai Tryz.f139,ins:={ sl:=[(0, .t (.s)),(1, .t (.s))] },out:=.new (.t (.b)),cuts:=[] }
noncomputable def f138:FI:={ fid:=138,fn:=Tryz.f138,c:=ai Tryz.f138,ins:={ sl:=[(0, .t (.s)),(1, .dp (.s))] },out:=.new (.t (.b)),cuts:=[] }
noncomputable def f141:FI:={ fid:=141,fn:=Tryz.f141,c:=ai Tryz.f141,ins:={ sl:=[(0, .t (.b)),(1, .t (.i .i64)),(2, .t (.i .i64)),(3, .t (.i .i64))] },out:=.new (.t (.b)),cuts:=[] }
noncomputable def f142:FI:={ fid:=142,fn:=Tryz.f142,c:=ai Tryz.f142,ins:={ sl:=[(0, .t (.st .GSpan))] },out:=.new (.t (.b)),cuts:=[] }
abbrev CY:Tm:={ sl:=[(1, .k (.ptr 0 14 0 0)),(89, .t (.i .i64)),(97, .t (.b))],ob:=[.box [.t (.st .GFact)]] }
noncomputable def f90:FI:={ fid:=90,fn:=Tryz.f90,c:=ai Tryz.f90,ins:={ sl:=[(0, .t (.st .GFact))] },out:=.new (.t (.b)),cuts:=[(2007,CY)] }
noncomputable def f61:FI:={ fid:=61,fn:=Tryz.f61,c:=ai Tryz.f61,ins:={ sl:=[(0, .t (.st .GFact))] },out:=.new (.t (.b)),cuts:=[] }
abbrev K2:Tm:={ sl:=[(1, .fn 61 []),(5, .k (.row 0 14)),(8, .t (.ls (.st .GFact))),(9, .t (.i .i64)),(10, .t (.i .i64))],ob:=[.row 38 (.st .GFact)] }
noncomputable def f60:FI:={ fid:=60,fn:=Tryz.f60,c:=ai Tryz.f60,ins:={ sl:=[(0, .t (.ls (.st .GFact))),(1, .fn 61 [])] },out:=.own true 38 (.st .GFact),cuts:=[(58,K2)] }
noncomputable def f31:FI:={ fid:=31,fn:=Tryz.f31,c:=ai Tryz.f31,ins:={ sl:=[(0, .t (.ls (.st .GFact)))] },out:=.own true 38 (.st .GFact),cuts:=[] }
abbrev Mo:Tm:={ sl:=[(1, .t (.i .i64)),(6, .t (.i .i64)),(7, .t (.b)),(10, .t (.ls (.st .GFact))),(11, .t (.i .i64)),(12, .t (.i .i64))],ob:=[] }
noncomputable def f91:FI:={ fid:=91,fn:=Tryz.f91,c:=ai Tryz.f91,ins:={ sl:=[(0, .t (.ls (.st .GFact))),(1, .t (.i .i64))] },out:=.new (.tp [.t (.i .i64), .t (.b)]),cuts:=[(58,Mo)] }
noncomputable def f63:FI:={ fid:=63,fn:=Tryz.f63,c:=ai Tryz.f63,ins:={ sl:=[(0, .t (.ls (.st .GFact)))] },out:=.new (.tp [.t (.i .i64), .t (.b)]),cuts:=[] }
noncomputable def f64:FI:={ fid:=64,fn:=Tryz.f64,c:=ai Tryz.f64,ins:={ sl:=[(0, .t (.ls (.st .GFact)))] },out:=.new (.tp [.t (.i .i64), .t (.b)]),cuts:=[] }
noncomputable def f33:FI:={ fid:=33,fn:=Tryz.f33,c:=ai Tryz.f33,ins:={ sl:=[(0, .t (.ls (.st .GFact)))] },out:=.new (.t (.st .GSpan)),cuts:=[] }
noncomputable def f85:FI:={ fid:=85,fn:=Tryz.f85,c:=ai Tryz.f85,ins:={ sl:=[(0, .t (.st .GSpan))] },out:=.new (.t (.st .GSpan)),cuts:=[] }
abbrev L5:Tm:={ sl:=[(3, .k (.ptr 0 1 0 0)),(10, .t (.ls (.st .GSpan))),(11, .t (.i .i64)),(12, .t (.i .i64))],ob:=[.box [.k (.row 1 2)], .row 30 (.st .GSpan)] }
abbrev HU:Tm:={ sl:=[(6, .k (.row 0 2)),(32, .k (.row 1 2)),(33, .t (.i .i64)),(34, .t (.i .i64))],ob:=[.row 30 (.st .GSpan), .row 30 (.st .GSpan)] }
noncomputable def f56:FI:={ fid:=56,fn:=Tryz.f56,c:=ai Tryz.f56,ins:={ sl:=[(0, .t (.ls (.st .GSpan)))] },out:=.own true 30 (.st .GSpan),cuts:=[(58,L5),(506,HU)] }
abbrev HL:Tm:={ sl:=[(0, .k (.row 0 2)),(1, .k (.row 1 2)),(5, .k (.row 2 2)),(6, .t (.i .i64)),(7, .t (.i .i64))],ob:=[.row 30 (.st .GSpan), .row 30 (.st .GSpan), .row 30 (.st .GSpan)] }
abbrev Dr:Tm:={ sl:=[(0, .k (.row 0 2)),(1, .k (.row 1 2)),(5, .k (.row 2 2)),(6, .t (.i .i64)),(7, .t (.i .i64))],ob:=[.row 30 (.st .GSpan), .row 30 (.st .GSpan), .row 30 (.st .GSpan)] }
noncomputable def f62:FI:={ fid:=62,fn:=Tryz.f62,c:=ai Tryz.f62,ins:={ sl:=[(0, .t (.ls (.st .GSpan))),(1, .t (.ls (.st .GSpan)))] },out:=.own true 30 (.st .GSpan),cuts:=[(122,HL),(3915,Dr)] }
noncomputable def f32:FI:={ fid:=32,fn:=Tryz.f32,c:=ai Tryz.f32,ins:={ sl:=[(0, .t (.ls (.st .GSpan))),(1, .t (.st .GSpan))] },out:=.own true 30 (.st .GSpan),cuts:=[] }
abbrev GD:Tm:={ sl:=[(0, .t (.ls (.st .GFact))),(7, .k (.row 0 4)),(39, .k (.ptr 1 1 0 0))],ob:=[.row 32 (.st .GPosting), .iter (.fn 2000000000 [.k (.ptr 2 1 0 0)]), .map 66 (.st .GCompetence_route) (.ls (.st .GSpan))] }
abbrev Ak:Tm:={ sl:=[(0, .t (.ls (.st .GFact))),(7, .k (.row 0 4)),(8, .k (.ptr 1 2 0 0)),(39, .k (.ptr 2 1 0 0)),(48, .k (.row 3 2)),(49, .t (.i .i64)),(50, .t (.i .i64))],ob:=[.row 32 (.st .GPosting), .box [.t (.st .GCompetence_route)], .iter (.fn 2000000000 [.k (.ptr 4 1 0 0)]), .row 30 (.st .GSpan), .map 66 (.st .GCompetence_route) (.ls (.st .GSpan))] }
noncomputable def f12:FI:={ fid:=12,fn:=Tryz.f12,c:=ai Tryz.f12,ins:={ sl:=[(0, .t (.ls (.st .GFact)))] },out:=.own true 32 (.st .GPosting),cuts:=[(250,GD),(32054,Ak)],hd:=[(29,⟨{ sl:=[(0, .t (.ls (.st .GFact))),(3, .k (.fn 2000000000 [.ptr 0 1 0 0])),(14, .t (.ls (.st .GFact))),(15, .t (.i .i64)),(16, .t (.i .i64))],ob:=[.map 66 (.st .GCompetence_route) (.ls (.st .GSpan))] },{ sl:=[(0, .t (.ls (.st .GFact))),(3, .k (.fn 2000000000 [.ptr 0 1 0 0]))],ob:=[.map 66 (.st .GCompetence_route) (.ls (.st .GSpan))] },fun x=>uy x⟩)] }
abbrev KI:Tm:={ sl:=[(0, .t (.ls (.st .GFact))),(3, .k (.row 0 14)),(4, .t (.i .i64))],ob:=[.row 38 (.st .GFact)] }
noncomputable def f38:FI:={ fid:=38,fn:=Tryz.f38,c:=ai Tryz.f38,ins:={ sl:=[(0, .t (.ls (.st .GFact)))] },out:=.own true 38 (.st .GFact),cuts:=[(58,KI)] }
abbrev C2:Tm:={ sl:=[(1, .t (.i .i64)),(6, .k (.row 0 14)),(7, .t (.i .i64)),(8, .t (.b)),(9, .t (.i .i64))],ob:=[.row 38 (.st .GFact)] }
noncomputable def f105:FI:={ fid:=105,fn:=Tryz.f105,c:=ai Tryz.f105,ins:={ sl:=[(0, .t (.ls (.st .GFact))),(1, .t (.i .i64))] },out:=.new (.tp [.t (.i .i64), .t (.b)]),cuts:=[(122,C2)] }
noncomputable def f69:FI:={ fid:=69,fn:=Tryz.f69,c:=ai Tryz.f69,ins:={ sl:=[(0, .t (.ls (.st .GFact)))] },out:=.new (.tp [.t (.i .i64), .t (.b)]),cuts:=[] }
noncomputable def f70:FI:={ fid:=70,fn:=Tryz.f70,c:=ai Tryz.f70,ins:={ sl:=[(0, .t (.ls (.st .GFact)))] },out:=.new (.tp [.t (.i .i64), .t (.b)]),cuts:=[] }
noncomputable def f40:FI:={ fid:=40,fn:=Tryz.f40,c:=ai Tryz.f40,ins:={ sl:=[(0, .t (.ls (.st .GFact)))] },out:=.new (.t (.st .GSpan)),cuts:=[] }
noncomputable def f148:FI:={ fid:=148,fn:=Tryz.f148,c:=ai Tryz.f148,ins:={ sl:=[(0, .t (.st .GSpan))] },out:=.new (.tp [.t (.st .GSpan), .t (.b)]),cuts:=[] }
abbrev Ki:Tm:={ sl:=[(0, .t (.ls (.i .i64))),(1, .t (.i .i64)),(5, .t (.i .i64))],ob:=[] }
noncomputable def f55:FI:={ fid:=55,fn:=Tryz.f55,c:=ai Tryz.f55,ins:={ sl:=[(0, .t (.ls (.i .i64))),(1, .t (.i .i64))] },out:=.data (.t (.ls (.i .i64))),cuts:=[(28,Ki)] }
abbrev GE:Tm:={ sl:=[(0, .t (.ls (.ls (.st .GSpan)))),(3, .t (.ls (.i .i64))),(4, .t (.i .i64))],ob:=[] }
abbrev zG:Tm:={ sl:=[(0, .t (.ls (.ls (.st .GSpan)))),(3, .t (.ls (.i .i64))),(4, .t (.i .i64)),(5, .t (.i .i64))],ob:=[] }
noncomputable def f102:FI:={ fid:=102,fn:=Tryz.f102,c:=ai Tryz.f102,ins:={ sl:=[(0, .t (.ls (.ls (.st .GSpan))))] },out:=.data (.t (.ls (.i .i64))),cuts:=[(58,GE),(3730,zG)] }
noncomputable def f83:FI:={ fid:=83,fn:=Tryz.f83,c:=ai Tryz.f83,ins:={ sl:=[(0, .t (.i .i64))] },out:=.new (.t (.b)),cuts:=[] }
abbrev Hh:Tm:={ sl:=[(0, .t (.ls (.st .GSpan))),(1, .t (.i .i64)),(5, .t (.i .i64))],ob:=[] }
noncomputable def f103:FI:={ fid:=103,fn:=Tryz.f103,c:=ai Tryz.f103,ins:={ sl:=[(0, .t (.ls (.st .GSpan))),(1, .t (.i .i64))] },out:=.new (.t (.b)),cuts:=[(26,Hh)] }
noncomputable def f104:FI:={ fid:=104,fn:=Tryz.f104,c:=ai Tryz.f104,ins:={ sl:=[(0, .t (.ls (.st .GSpan))),(1, .t (.st .GSpan))] },out:=.own true 30 (.st .GSpan),cuts:=[] }
abbrev Gt:Tm:={ sl:=[(0, .t (.ls (.st .GSpan))),(1, .t (.ls (.st .GSpan))),(2, .t (.i .i64)),(7, .t (.ls (.i .i64))),(8, .k (.row 0 2)),(9, .t (.i .i64))],ob:=[.row 30 (.st .GSpan)] }
noncomputable def f68:FI:={ fid:=68,fn:=Tryz.f68,c:=ai Tryz.f68,ins:={ sl:=[(0, .t (.ls (.st .GSpan))),(1, .t (.ls (.st .GSpan))),(2, .t (.i .i64))] },out:=.own true 30 (.st .GSpan),cuts:=[(122,Gt)] }
noncomputable def f39:FI:={ fid:=39,fn:=Tryz.f39,c:=ai Tryz.f39,ins:={ sl:=[(0, .t (.ls (.st .GSpan))),(1, .t (.st .GSpan))] },out:=.own true 30 (.st .GSpan),cuts:=[] }
abbrev K6:Tm:={ sl:=[(0, .t (.ls (.st .GPosting))),(3, .k (.ptr 0 4 0 0)),(5, .t (.i .i64))],ob:=[.box [.t (.st .GPosting)]] }
noncomputable def f41:FI:={ fid:=41,fn:=Tryz.f41,c:=ai Tryz.f41,ins:={ sl:=[(0, .t (.ls (.st .GPosting))),(1, .t (.st .GPosting))] },out:=.own true 32 (.st .GPosting),cuts:=[(28,K6)] }
abbrev FT:Tm:={ sl:=[(0, .t (.ls (.st .GFact))),(3, .k (.row 0 14)),(4, .k (.row 1 4)),(5, .t (.i .i64))],ob:=[.row 38 (.st .GFact), .row 32 (.st .GPosting)] }
abbrev Df:Tm:={ sl:=[(0, .t (.ls (.st .GFact))),(3, .k (.row 0 14)),(4, .k (.row 1 4)),(5, .t (.i .i64)),(6, .t (.i .i64))],ob:=[.row 38 (.st .GFact), .row 32 (.st .GPosting)] }
abbrev vA:Tm:={ sl:=[(0, .t (.ls (.st .GFact))),(3, .k (.row 0 14)),(4, .k (.row 1 4)),(5, .t (.i .i64)),(6, .t (.i .i64)),(7, .k (.row 2 2)),(8, .t (.i .i64))],ob:=[.row 38 (.st .GFact), .row 32 (.st .GPosting), .row 30 (.st .GSpan)] }
abbrev vC:Tm:={ sl:=[(0, .t (.ls (.st .GFact))),(3, .k (.row 0 14)),(4, .k (.row 1 4)),(5, .t (.i .i64)),(6, .t (.i .i64)),(7, .k (.row 2 2)),(9, .t (.i .i64))],ob:=[.row 38 (.st .GFact), .row 32 (.st .GPosting), .row 30 (.st .GSpan)] }
noncomputable def f13:FI:={ fid:=13,fn:=Tryz.f13,c:=ai Tryz.f13,ins:={ sl:=[(0, .t (.ls (.st .GFact)))] },out:=.own true 32 (.st .GPosting),cuts:=[(122,FT),(7826,Df),(2003530,vA),(4007070,vC)] }
noncomputable def f109:FI:={ fid:=109,fn:=Tryz.f109,c:=ai Tryz.f109,ins:={ sl:=[(0, .t (.i .i64))] },out:=.new (.t (.b)),cuts:=[] }
noncomputable def f149:FI:={ fid:=149,fn:=Tryz.f149,c:=ai Tryz.f149,ins:={ sl:=[(0, .t (.i .i64)),(1, .t (.i .i64))] },out:=.new (.t (.b)),cuts:=[] }
abbrev FP:Tm:={ sl:=[(1, .k (.ptr 0 5 0 0)),(28, .t (.ls (.i .i64))),(29, .t (.i .i64)),(30, .t (.i .i64))],ob:=[.box [.t (.st .GRules)]] }
noncomputable def f108:FI:={ fid:=108,fn:=Tryz.f108,c:=ai Tryz.f108,ins:={ sl:=[(0, .t (.st .GRules))] },out:=.new (.t (.b)),cuts:=[(58,FP)] }
abbrev Hm:Tm:={ sl:=[(0, .t (.ls (.st .GRules))),(18, .t (.ls (.st .GRules))),(19, .t (.i .i64)),(20, .t (.i .i64))],ob:=[] }
noncomputable def f73:FI:={ fid:=73,fn:=Tryz.f73,c:=ai Tryz.f73,ins:={ sl:=[(0, .t (.ls (.st .GRules)))] },out:=.new (.t (.i .i64)),cuts:=[(122,Hm)] }
noncomputable def f48:FI:={ fid:=48,fn:=Tryz.f48,c:=ai Tryz.f48,ins:={ sl:=[(0, .t (.ls (.st .GFact))),(1, .t (.ls (.st .GRules)))] },out:=.data (.tp [.t (.st .GCompetence_life), .t (.b)]),cuts:=[] }
noncomputable def f74:FI:={ fid:=74,fn:=Tryz.f74,c:=ai Tryz.f74,ins:={ sl:=[(0, .t (.ls (.st .GRules))),(1, .t (.i .i64))] },out:=.data (.tp [.t (.st .GRules), .t (.b)]),cuts:=[] }
noncomputable def f75:FI:={ fid:=75,fn:=Tryz.f75,c:=ai Tryz.f75,ins:={ sl:=[(0, .t (.st .GSpan)),(1, .t (.i .i64))] },out:=.new (.t (.b)),cuts:=[] }
abbrev Lq:Tm:={ sl:=[(1, .t (.i .i64)),(2, .t (.i .i64)),(11, .t (.ls (.st .GPosting))),(12, .t (.i .i64)),(13, .t (.i .i64))],ob:=[] }
noncomputable def f76:FI:={ fid:=76,fn:=Tryz.f76,c:=ai Tryz.f76,ins:={ sl:=[(0, .t (.st .GCompetence_life)),(1, .t (.i .i64)),(2, .t (.i .i64))] },out:=.new (.tp [.t (.i .i64), .t (.b)]),cuts:=[(26,Lq)] }
abbrev GQ:Tm:={ sl:=[(0, .t (.ls (.i .i64))),(1, .t (.i .i64)),(7, .t (.i .i64)),(8, .t (.i .i64))],ob:=[] }
noncomputable def f153:FI:={ fid:=153,fn:=Tryz.f153,c:=ai Tryz.f153,ins:={ sl:=[(0, .t (.ls (.i .i64))),(1, .t (.i .i64))] },out:=.new (.t (.i .i64)),cuts:=[(26,GQ)] }
noncomputable def f116:FI:={ fid:=116,fn:=Tryz.f116,c:=ai Tryz.f116,ins:={ sl:=[(0, .t (.ls (.i .i64))),(1, .t (.i .i64))] },out:=.new (.t (.b)),cuts:=[] }
abbrev GR:Tm:={ sl:=[(1, .t (.i .i64)),(2, .t (.ls (.i .i64))),(7, .k (.row 0 14)),(11, .t (.ls (.st .GFact))),(12, .t (.i .i64)),(13, .t (.i .i64))],ob:=[.row 38 (.st .GFact)] }
noncomputable def f112:FI:={ fid:=112,fn:=Tryz.f112,c:=ai Tryz.f112,ins:={ sl:=[(0, .t (.st .GCompetence_life)),(1, .t (.i .i64)),(2, .t (.ls (.i .i64)))] },out:=.own true 38 (.st .GFact),cuts:=[(58,GR)] }
abbrev Ll:Tm:={ sl:=[(6, .k (.ptr 0 14 0 0)),(7, .t (.b)),(14, .k (.row 1 14)),(15, .t (.i .i64)),(16, .t (.i .i64))],ob:=[.box [.t (.st .GFact)], .row 38 (.st .GFact)] }
noncomputable def f77:FI:={ fid:=77,fn:=Tryz.f77,c:=ai Tryz.f77,ins:={ sl:=[(0, .t (.st .GCompetence_life)),(1, .t (.i .i64))] },out:=.new (.tp [.t (.i .i64), .t (.b)]),cuts:=[(58,Ll)] }
noncomputable def f155:FI:={ fid:=155,fn:=Tryz.f155,c:=ai Tryz.f155,ins:={ sl:=[(0, .t (.st .GSpan)),(1, .dp (.i .i64))] },out:=.new (.t (.b)),cuts:=[] }
abbrev GZ:Tm:={ sl:=[(0, .t (.ls (.st .GSpan))),(1, .fn 155 [.dp (.i .i64)]),(7, .t (.i .i64)),(8, .t (.i .i64))],ob:=[] }
noncomputable def f196:FI:={ fid:=196,fn:=Tryz.f196,c:=ai Tryz.f196,ins:={ sl:=[(0, .t (.ls (.st .GSpan))),(1, .fn 155 [.dp (.i .i64)])] },out:=.new (.t (.i .i64)),cuts:=[(26,GZ)] }
noncomputable def f154:FI:={ fid:=154,fn:=Tryz.f154,c:=ai Tryz.f154,ins:={ sl:=[(0, .t (.ls (.st .GSpan))),(1, .fn 155 [.dp (.i .i64)])] },out:=.new (.t (.b)),cuts:=[] }
noncomputable def f119:FI:={ fid:=119,fn:=Tryz.f119,c:=ai Tryz.f119,ins:={ sl:=[(0, .t (.ls (.st .GSpan))),(1, .t (.i .i64))] },out:=.new (.t (.b)),cuts:=[] }
abbrev G7:Tm:={ sl:=[(1, .t (.i .i64)),(6, .k (.ptr 0 14 0 0)),(7, .t (.b)),(22, .t (.ls (.st .GFact))),(23, .t (.i .i64)),(24, .t (.i .i64))],ob:=[.box [.t (.st .GFact)]] }
noncomputable def f80:FI:={ fid:=80,fn:=Tryz.f80,c:=ai Tryz.f80,ins:={ sl:=[(0, .t (.ls (.st .GFact))),(1, .t (.i .i64))] },out:=.new (.tp [.t (.i .i64), .t (.b)]),cuts:=[(122,G7)] }
abbrev GC:Tm:={ sl:=[(3, .k (.row 0 1)),(6, .t (.ls (.st .GFact))),(7, .t (.i .i64)),(8, .t (.i .i64))],ob:=[.row 3 (.i .i64)] }
noncomputable def f115:FI:={ fid:=115,fn:=Tryz.f115,c:=ai Tryz.f115,ins:={ sl:=[(0, .t (.ls (.st .GFact)))] },out:=.own true 3 (.i .i64),cuts:=[(58,GC)] }
abbrev Kh:Tm:={ sl:=[(1, .t (.i .i64)),(2, .t (.i .i64)),(3, .k (.ptr 0 5 0 0)),(8, .fn 2000000000 [.k (.ptr 1 1 0 0)]),(9, .t (.i .i64)),(25, .k (.row 2 14)),(26, .t (.i .i64)),(27, .t (.i .i64))],ob:=[.box [.t (.st .GCompetence_life)], .map 153 (.i .i64) (.i .i64), .row 38 (.st .GFact)] }
abbrev Am:Tm:={ sl:=[(8, .fn 2000000000 [.k (.ptr 0 1 0 0)]),(18, .t (.i .i64)),(117, .k (.row 1 1)),(118, .t (.i .i64)),(119, .t (.i .i64))],ob:=[.map 153 (.i .i64) (.i .i64), .row 3 (.i .i64)] }
noncomputable def f78:FI:={ fid:=78,fn:=Tryz.f78,c:=ai Tryz.f78,ins:={ sl:=[(0, .t (.st .GCompetence_life)),(1, .t (.i .i64)),(2, .t (.i .i64))] },out:=.new (.tp [.t (.i .i64), .t (.b)]),cuts:=[(58,Kh),(65530,Am)] }
noncomputable def f67:FI:={ fid:=67,fn:=Tryz.f67,c:=ai Tryz.f67,ins:={ sl:=[(0, .t (.i .i64))] },out:=.new (.t (.b)),cuts:=[] }
noncomputable def f37:FI:={ fid:=37,fn:=Tryz.f37,c:=ai Tryz.f37,ins:={ sl:=[(0, .t (.i .i64)),(1, .t (.i .i64))] },out:=.new (.t (.i .i64)),cuts:=[] }
noncomputable def f118:FI:={ fid:=118,fn:=Tryz.f118,c:=ai Tryz.f118,ins:={ sl:=[(0, .t (.st .GFact)),(1, .t (.st .GFact))] },out:=.new (.t (.i .i64)),cuts:=[] }
abbrev DZ:Tm:={ sl:=[(0, .t (.ls (.st .GFact))),(1, .fn 118 []),(4, .k (.ptr 0 14 0 0)),(5, .k (.ptr 1 14 0 0)),(6, .t (.i .i64))],ob:=[.box [.t (.st .GFact)], .box [.t (.st .GFact)]] }
noncomputable def f117:FI:={ fid:=117,fn:=Tryz.f117,c:=ai Tryz.f117,ins:={ sl:=[(0, .t (.ls (.st .GFact))),(1, .fn 118 [])] },out:=.new (.t (.st .GFact)),cuts:=[(122,DZ)] }
noncomputable def f79:FI:={ fid:=79,fn:=Tryz.f79,c:=ai Tryz.f79,ins:={ sl:=[(0, .t (.st .GCompetence_life)),(1, .t (.i .i64))] },out:=.new (.tp [.t (.i .i64), .t (.b)]),cuts:=[] }
noncomputable def f49:FI:={ fid:=49,fn:=Tryz.f49,c:=ai Tryz.f49,ins:={ sl:=[(0, .t (.st .GCompetence_life)),(1, .t (.i .i64))] },out:=.new (.tp [.t (.i .i64), .t (.i .i64)]),cuts:=[] }
noncomputable def f18:FI:={ fid:=18,fn:=Tryz.f18,c:=ai Tryz.f18,ins:={ sl:=[(0, .t (.ls (.st .GFact))),(1, .t (.ls (.st .GRules))),(2, .t (.i .i64))] },out:=.new (.tp [.t (.i .i64), .t (.i .i64)]),cuts:=[] }
noncomputable def f14:FI:={ fid:=14,fn:=Tryz.f14,c:=ai Tryz.f14,ins:={ sl:=[] },out:=.new (.t (.b)),cuts:=[] }
abbrev UC:Tm:={ sl:=[(8, .k (.row 0 4)),(9, .k (.row 1 4)),(10, .t (.i .i64))],ob:=[.row 32 (.st .GPosting), .row 32 (.st .GPosting)] }
noncomputable def f3:FI:={ fid:=3,fn:=Tryz.f3,c:=ai Tryz.f3,ins:={ sl:=[(0, .t (.ls (.st .GPensionhand_Fact))),(1, .t (.ls (.i .i64))),(2, .t (.b))] },out:=.new (.t (.b)),cuts:=[(250,UC)] }
abbrev Uv:Tm:={ sl:=[(0, .t (.ls (.st .GPensionhand_Fact))),(2, .t (.i .i64)),(3, .t (.i .i64)),(4, .t (.i .i64)),(5, .t (.i .i64)),(13, .k (.row 0 14)),(14, .t (.i .i64))],ob:=[.row 38 (.st .GFact)] }
noncomputable def f4:FI:={ fid:=4,fn:=Tryz.f4,c:=ai Tryz.f4,ins:={ sl:=[(0, .t (.ls (.st .GPensionhand_Fact))),(1, .t (.ls (.i .i64))),(2, .t (.i .i64)),(3, .t (.i .i64)),(4, .t (.i .i64)),(5, .t (.i .i64))] },out:=.new (.t (.b)),cuts:=[(250,Uv)] }
abbrev Hb:Tm:={ sl:=[(0, .t (.i .i64)),(3, .t (.s))],ob:=[] }
noncomputable def f128:FI:={ fid:=128,fn:=Tryz.f128,c:=ai Tryz.f128,ins:={ sl:=[(0, .t (.i .i64))] },out:=.new (.t (.s)),cuts:=[(28,Hb)] }
noncomputable def f166:FI:={ fid:=166,fn:=Tryz.f166,c:=ai Tryz.f166,ins:={ sl:=[(0, .t (.i .i64))] },out:=.new (.t (.s)),cuts:=[] }
abbrev G6:Tm:={ sl:=[(1, .t (.ls (.i .i64))),(2, .t (.i .i64)),(7, .t (.s)),(8, .t (.s))],ob:=[] }
abbrev C4:Tm:={ sl:=[(1, .t (.ls (.i .i64))),(2, .t (.i .i64)),(7, .t (.s)),(8, .t (.s))],ob:=[] }
abbrev Db:Tm:={ sl:=[(1, .t (.ls (.i .i64))),(2, .t (.i .i64)),(7, .t (.s)),(8, .t (.s))],ob:=[] }
abbrev zK:Tm:={ sl:=[(1, .t (.ls (.i .i64))),(2, .t (.i .i64)),(8, .t (.s))],ob:=[] }
abbrev xI:Tm:={ sl:=[(1, .t (.ls (.i .i64))),(2, .t (.i .i64)),(8, .t (.s))],ob:=[] }
noncomputable def f129:FI:={ fid:=129,fn:=Tryz.f129,c:=ai Tryz.f129,ins:={ sl:=[(0, .t (.s)),(1, .t (.ls (.i .i64))),(2, .t (.i .i64))] },out:=.new (.t (.s)),cuts:=[(31,G6),(127,C4),(255,Db),(8191,zK),(65535,xI)] }
abbrev Kk:Tm:={ sl:=[(0, .t (.i .i64)),(1, .t (.ls (.i .i64))),(6, .t (.s))],ob:=[] }
noncomputable def f82:FI:={ fid:=82,fn:=Tryz.f82,c:=ai Tryz.f82,ins:={ sl:=[(0, .t (.i .i64)),(1, .t (.ls (.i .i64)))] },out:=.new (.t (.s)),cuts:=[(31,Kk)] }
abbrev GS:Tm:={ sl:=[(0, .t (.s)),(1, .t (.i .i64)),(5, .t (.b))],ob:=[] }
noncomputable def f220:FI:={ fid:=220,fn:=Tryz.f220,c:=ai Tryz.f220,ins:={ sl:=[(0, .t (.s)),(1, .t (.i .i64))] },out:=.new (.t (.i .i64)),cuts:=[(28,GS)] }
noncomputable def f221:FI:={ fid:=221,fn:=Tryz.f221,c:=ai Tryz.f221,ins:={ sl:=[(0, .t (.i .u8))] },out:=.new (.t (.b)),cuts:=[] }
noncomputable def f223:FI:={ fid:=223,fn:=Tryz.f223,c:=ai Tryz.f223,ins:={ sl:=[(0, .t (.i .u8))] },out:=.new (.t (.b)),cuts:=[] }
abbrev Hc:Tm:={ sl:=[(0, .t (.s)),(1, .t (.i .i64)),(2, .t (.b)),(7, .t (.i .i64))],ob:=[] }
noncomputable def f222:FI:={ fid:=222,fn:=Tryz.f222,c:=ai Tryz.f222,ins:={ sl:=[(0, .t (.s)),(1, .t (.i .i64)),(2, .t (.b))] },out:=.new (.t (.i .i64)),cuts:=[(28,Hc)] }
abbrev FU:Tm:={ sl:=[(0, .t (.s)),(6, .t (.i .i64))],ob:=[] }
abbrev DQ:Tm:={ sl:=[(0, .t (.s)),(6, .t (.i .i64)),(8, .t (.i .i64)),(9, .t (.i .i64))],ob:=[] }
abbrev Dy:Tm:={ sl:=[(6, .t (.i .i64)),(10, .t (.s)),(11, .t (.s))],ob:=[] }
abbrev Ar:Tm:={ sl:=[(6, .t (.i .i64)),(10, .t (.s)),(11, .t (.s)),(12, .t (.i .i64))],ob:=[] }
noncomputable def f200:FI:={ fid:=200,fn:=Tryz.f200,c:=ai Tryz.f200,ins:={ sl:=[(0, .t (.s))] },out:=.new (.tp [.t (.s), .t (.s), .t (.i .i64), .t (.b)]),cuts:=[(15,FU),(250,DQ),(255,Dy),(2042,Ar)] }
abbrev GB:Tm:={ sl:=[(0, .t (.s)),(4, .t (.i .i64)),(5, .t (.i .i64))],ob:=[] }
noncomputable def f227:FI:={ fid:=227,fn:=Tryz.f227,c:=ai Tryz.f227,ins:={ sl:=[(0, .t (.s))] },out:=.new (.tp [.t (.i .i64), .t (.b)]),cuts:=[(58,GB)] }
noncomputable def f254:FI:={ fid:=254,fn:=Tryz.f254,c:=ai Tryz.f254,ins:={ sl:=[(0, .t (.i .i64))] },out:=.new (.t (.b)),cuts:=[] }
noncomputable def f244:FI:={ fid:=244,fn:=Tryz.f244,c:=ai Tryz.f244,ins:={ sl:=[(0, .t (.i .i64)),(1, .t (.i .i64))] },out:=.new (.t (.i .i64)),cuts:=[] }
abbrev F3:Tm:={ sl:=[(0, .t (.i .i64)),(3, .t (.i .i64)),(4, .t (.i .i64))],ob:=[] }
noncomputable def f245:FI:={ fid:=245,fn:=Tryz.f245,c:=ai Tryz.f245,ins:={ sl:=[(0, .t (.i .i64))] },out:=.new (.t (.i .i64)),cuts:=[(58,F3)] }
noncomputable def f228:FI:={ fid:=228,fn:=Tryz.f228,c:=ai Tryz.f228,ins:={ sl:=[(0, .t (.i .i64)),(1, .t (.i .i64)),(2, .t (.i .i64))] },out:=.new (.tp [.t (.i .i64), .t (.b)]),cuts:=[] }
noncomputable def f202:FI:={ fid:=202,fn:=Tryz.f202,c:=ai Tryz.f202,ins:={ sl:=[(0, .t (.s))] },out:=.new (.tp [.t (.i .i64), .t (.b)]),cuts:=[] }
abbrev LR:Tm:={ sl:=[(0, .t (.s)),(1, .t (.i .i64))],ob:=[] }
abbrev Dz:Tm:={ sl:=[(29, .t (.b))],ob:=[] }
noncomputable def f224:FI:={ fid:=224,fn:=Tryz.f224,c:=ai Tryz.f224,ins:={ sl:=[(0, .t (.s)),(1, .t (.i .i64))] },out:=.new (.t (.i .i64)),cuts:=[(7,LR),(117,Dz)] }
abbrev Dp:Tm:={ sl:=[(0, .t (.s)),(1, .t (.i .i64)),(4, .k (.ptr 0 3 0 0)),(7, .t (.i .i64)),(8, .t (.i .i64)),(9, .t (.b))],ob:=[.box [.t (.st .GToken)]] }
noncomputable def f197:FI:={ fid:=197,fn:=Tryz.f197,c:=ai Tryz.f197,ins:={ sl:=[(0, .t (.s)),(1, .t (.i .i64))] },out:=.new (.tp [.t (.st .GToken), .t (.i .i64), .t (.i .i64)]),cuts:=[(127,Dp)] }
abbrev Hj:Tm:={ sl:=[(0, .t (.s)),(5, .k (.row 0 3)),(6, .t (.i .i64))],ob:=[.row 216 (.st .GToken)] }
noncomputable def f156:FI:={ fid:=156,fn:=Tryz.f156,c:=ai Tryz.f156,ins:={ sl:=[(0, .t (.s))] },out:=.new (.tp [.t (.ls (.st .GToken)), .t (.i .i64), .t (.i .i64)]),cuts:=[(62,Hj)] }
noncomputable def f120:FI:={ fid:=120,fn:=Tryz.f120,c:=ai Tryz.f120,ins:={ sl:=[(0, .t (.s))],ob:=[] },out:=.gen2 ({ sl:=[(2000000, .tp [.tp [.k (.c (.lit (.pointer none))), .t (.i .i64), .t (.i .i64)]])],ob:=[] }) ({ sl:=[(2000000, .tp [.tp [.k (.ptr 0 4 0 0), .t (.i .i64), .t (.i .i64)]])],ob:=[.box [.t (.st .GPensionref5_reader)]] }),cuts:=[] }
noncomputable def f161:FI:={ fid:=161,fn:=Tryz.f161,c:=ai Tryz.f161,ins:={ sl:=[(0, .dp (.st .GPensionref5_reader)),(1, .t (.s))] },out:=.new (.t (.b)),cuts:=[] }
noncomputable def f124:FI:={ fid:=124,fn:=Tryz.f124,c:=ai Tryz.f124,ins:={ sl:=[(0, .k (.ptr 0 4 0 0)),(1, .t (.s)),(1000000, .k (.ptr 0 4 0 0))],ob:=[.box [.t (.st .GPensionref5_reader)]] },out:=.gen ({ sl:=[(1000000, .k (.ptr 0 4 0 0)),(2000000, .tp [.t (.b)])],ob:=[.box [.t (.st .GPensionref5_reader)]] }),cuts:=[] }
noncomputable def f157:FI:={ fid:=157,fn:=Tryz.f157,c:=ai Tryz.f157,ins:={ sl:=[(0, .k (.ptr 0 4 0 0)),(1000000, .k (.ptr 0 4 0 0))],ob:=[.box [.t (.st .GPensionref5_reader)]] },out:=.gen ({ sl:=[(1000000, .k (.ptr 0 4 0 0)),(2000000, .tp [.tp []])],ob:=[.box [.t (.st .GPensionref5_reader)]] }),cuts:=[] }
noncomputable def f121:FI:={ fid:=121,fn:=Tryz.f121,c:=ai Tryz.f121,ins:={ sl:=[(0, .k (.ptr 0 4 0 0)),(1, .t (.s)),(1000000, .k (.ptr 0 4 0 0))],ob:=[.box [.t (.st .GPensionref5_reader)]] },out:=.gen ({ sl:=[(1000000, .k (.ptr 0 4 0 0)),(2000000, .tp [.tp []])],ob:=[.box [.t (.st .GPensionref5_reader)]] }),cuts:=[] }
noncomputable def f158:FI:={ fid:=158,fn:=Tryz.f158,c:=ai Tryz.f158,ins:={ sl:=[(0, .dp (.st .GPensionref5_reader)),(1, .t (.i .i64))] },out:=.new (.t (.b)),cuts:=[] }
abbrev HD:Tm:={ sl:=[(0, .t (.s)),(3, .t (.i .i64))],ob:=[] }
noncomputable def f198:FI:={ fid:=198,fn:=Tryz.f198,c:=ai Tryz.f198,ins:={ sl:=[(0, .t (.s))] },out:=.new (.t (.b)),cuts:=[(26,HD)] }
abbrev Hn:Tm:={ sl:=[(4, .t (.b))],ob:=[] }
noncomputable def f199:FI:={ fid:=199,fn:=Tryz.f199,c:=ai Tryz.f199,ins:={ sl:=[(0, .t (.s))] },out:=.new (.t (.b)),cuts:=[(53,Hn)] }
noncomputable def f159:FI:={ fid:=159,fn:=Tryz.f159,c:=ai Tryz.f159,ins:={ sl:=[(0, .t (.s))] },out:=.new (.t (.b)),cuts:=[] }
noncomputable def f122:FI:={ fid:=122,fn:=Tryz.f122,c:=ai Tryz.f122,ins:={ sl:=[(0, .k (.ptr 0 4 0 0)),(1000000, .k (.ptr 0 4 0 0))],ob:=[.box [.t (.st .GPensionref5_reader)]] },out:=.gen ({ sl:=[(1000000, .k (.ptr 0 4 0 0)),(2000000, .tp [.t (.s)])],ob:=[.box [.t (.st .GPensionref5_reader)]] }),cuts:=[] }
noncomputable def f226:FI:={ fid:=226,fn:=Tryz.f226,c:=ai Tryz.f226,ins:={ sl:=[(0, .t (.i .i64))] },out:=.new (.t (.i .u64)),cuts:=[] }
abbrev U9:Tm:={ sl:=[(0, .t (.i .u64)),(2, .t (.i .i64))],ob:=[] }
abbrev Ug:Tm:={ sl:=[(0, .t (.i .u64)),(2, .t (.i .i64))],ob:=[] }
noncomputable def f101:FI:={ fid:=101,fn:=Tryz.f101,c:=ai Tryz.f101,ins:={ sl:=[(0, .t (.i .u64))] },out:=.new (.t (.i .i64)),cuts:=[(7,U9),(15,Ug)] }
noncomputable def f255:FI:={ fid:=255,fn:=Tryz.f255,c:=ai Tryz.f255,ins:={ sl:=[(0, .t (.i .u64))] },out:=.new (.t (.i .i64)),cuts:=[] }
abbrev MC:Tm:={ sl:=[(0, .t (.i .u64)),(1, .t (.i .u64)),(2, .t (.i .u64))],ob:=[] }
abbrev Hz:Tm:={ sl:=[(0, .t (.i .u64)),(1, .t (.i .u64)),(2, .t (.i .u64))],ob:=[] }
abbrev OR:Tm:={ sl:=[(2, .t (.i .u64)),(8, .t (.i .u64)),(9, .t (.i .u64)),(10, .t (.i .u64)),(11, .t (.i .u64)),(13, .t (.i .u64)),(14, .t (.i .u64)),(15, .t (.i .u64))],ob:=[] }
abbrev Cz:Tm:={ sl:=[(2, .t (.i .u64)),(8, .t (.i .u64)),(9, .t (.i .u64)),(10, .t (.i .u64)),(11, .t (.i .u64)),(13, .t (.i .u64)),(14, .t (.i .u64)),(15, .t (.i .u64)),(16, .t (.i .u64))],ob:=[] }
abbrev J2:Tm:={ sl:=[(2, .t (.i .u64)),(8, .t (.i .u64)),(14, .t (.i .u64)),(15, .t (.i .u64)),(17, .t (.i .u64)),(18, .t (.i .u64))],ob:=[] }
abbrev Kg:Tm:={ sl:=[(2, .t (.i .u64)),(8, .t (.i .u64)),(9, .t (.i .u64)),(10, .t (.i .u64)),(14, .t (.i .u64)),(15, .t (.i .u64)),(16, .t (.i .u64)),(17, .t (.i .u64)),(18, .t (.i .u64))],ob:=[] }
noncomputable def f253:FI:={ fid:=253,fn:=Tryz.f253,c:=ai Tryz.f253,ins:={ sl:=[(0, .t (.i .u64)),(1, .t (.i .u64)),(2, .t (.i .u64))] },out:=.new (.tp [.t (.i .u64), .t (.i .u64)]),cuts:=[(7,MC),(15,Hz),(65535,OR),(131068,Cz),(1048575,J2),(2097148,Kg)] }
noncomputable def f242:FI:={ fid:=242,fn:=Tryz.f242,c:=ai Tryz.f242,ins:={ sl:=[(0, .t (.st .GPensionref1_wide)),(1, .t (.i .u64))] },out:=.new (.tp [.t (.st .GPensionref1_wide), .t (.i .u64)]),cuts:=[] }
abbrev Gs:Tm:={ sl:=[(0, .t (.i .u64)),(1, .t (.i .u64))],ob:=[] }
noncomputable def f243:FI:={ fid:=243,fn:=Tryz.f243,c:=ai Tryz.f243,ins:={ sl:=[(0, .t (.i .u64)),(1, .t (.i .u64))] },out:=.new (.t (.i .u64)),cuts:=[(12,Gs)] }
noncomputable def f225:FI:={ fid:=225,fn:=Tryz.f225,c:=ai Tryz.f225,ins:={ sl:=[(0, .t (.b)),(1, .t (.st .GPensionref1_wide)),(2, .t (.i .u64))] },out:=.new (.tp [.t (.st .GFraction), .t (.i .i64)]),cuts:=[] }
noncomputable def f201:FI:={ fid:=201,fn:=Tryz.f201,c:=ai Tryz.f201,ins:={ sl:=[(0, .t (.i .i64)),(1, .t (.i .i64))] },out:=.new (.tp [.t (.st .GFraction), .t (.i .i64)]),cuts:=[] }
abbrev Dt:Tm:={ sl:=[(2, .k (.ptr 0 2 0 0)),(5, .t (.s)),(6, .t (.s)),(7, .t (.i .i64)),(9, .t (.i .i64)),(10, .t (.i .i64)),(11, .t (.i .i64))],ob:=[.box [.t (.st .GFraction)]] }
noncomputable def f160:FI:={ fid:=160,fn:=Tryz.f160,c:=ai Tryz.f160,ins:={ sl:=[(0, .t (.s))] },out:=.new (.tp [.t (.st .GFraction), .t (.i .i64), .t (.b)]),cuts:=[(250,Dt)] }
noncomputable def f123:FI:={ fid:=123,fn:=Tryz.f123,c:=ai Tryz.f123,ins:={ sl:=[(0, .k (.ptr 0 4 0 0)),(1, .t (.i .i64)),(2, .t (.i .i64)),(1000000, .k (.ptr 0 4 0 0))],ob:=[.box [.t (.st .GPensionref5_reader)]] },out:=.gen ({ sl:=[(1000000, .k (.ptr 0 4 0 0)),(2000000, .tp [.t (.i .i64)])],ob:=[.box [.t (.st .GPensionref5_reader)]] }),cuts:=[] }
noncomputable def f162:FI:={ fid:=162,fn:=Tryz.f162,c:=ai Tryz.f162,ins:={ sl:=[(0, .t (.s))] },out:=.new (.t (.i .i64)),cuts:=[] }
noncomputable def f203:FI:={ fid:=203,fn:=Tryz.f203,c:=ai Tryz.f203,ins:={ sl:=[(0, .t (.s))] },out:=.new (.t (.i .i64)),cuts:=[] }
noncomputable def f204:FI:={ fid:=204,fn:=Tryz.f204,c:=ai Tryz.f204,ins:={ sl:=[(0, .t (.s))] },out:=.new (.t (.i .i64)),cuts:=[] }
noncomputable def f205:FI:={ fid:=205,fn:=Tryz.f205,c:=ai Tryz.f205,ins:={ sl:=[(0, .t (.s))] },out:=.new (.t (.i .i64)),cuts:=[] }
noncomputable def f163:FI:={ fid:=163,fn:=Tryz.f163,c:=ai Tryz.f163,ins:={ sl:=[(0, .k (.ptr 0 4 0 0)),(1, .t (.i .i64)),(1000000, .k (.ptr 0 4 0 0))],ob:=[.box [.t (.st .GPensionref5_reader)]] },out:=.gen ({ sl:=[(1000000, .k (.ptr 0 4 0 0)),(2000000, .tp [.t (.i .i64)])],ob:=[.box [.t (.st .GPensionref5_reader)]] }),cuts:=[] }
noncomputable def f250:FI:={ fid:=250,fn:=Tryz.f250,c:=ai Tryz.f250,ins:={ sl:=[(0, .t (.i .i64))] },out:=.new (.t (.i .i64)),cuts:=[] }
noncomputable def f246:FI:={ fid:=246,fn:=Tryz.f246,c:=ai Tryz.f246,ins:={ sl:=[(0, .k (.ptr 0 4 0 0)),(1, .t (.i .i64)),(1000000, .k (.ptr 0 4 0 0))],ob:=[.box [.t (.st .GPensionref5_reader)]] },out:=.gen ({ sl:=[(1000000, .k (.ptr 0 4 0 0)),(2000000, .tp [.t (.st .GExpr)])],ob:=[.box [.t (.st .GPensionref5_reader)]] }),cuts:=[] }
noncomputable def f229:FI:={ fid:=229,fn:=Tryz.f229,c:=ai Tryz.f229,ins:={ sl:=[(0, .k (.ptr 0 4 0 0)),(1000000, .k (.ptr 0 4 0 0))],ob:=[.box [.t (.st .GPensionref5_reader)]] },out:=.gen ({ sl:=[(1000000, .k (.ptr 0 4 0 0)),(2000000, .tp [.t (.st .GExpr)])],ob:=[.box [.t (.st .GPensionref5_reader)]] }),cuts:=[] }
abbrev xc:Tm:={ sl:=[(3, .t (.i .i64)),(12, .t (.b))],ob:=[] }
noncomputable def f247:FI:={ fid:=247,fn:=Tryz.f247,c:=ai Tryz.f247,ins:={ sl:=[(0, .t (.i .i64))] },out:=.new (.t (.i .i64)),cuts:=[(13823,xc)] }
noncomputable def f248:FI:={ fid:=248,fn:=Tryz.f248,c:=ai Tryz.f248,ins:={ sl:=[(0, .t (.i .i64))] },out:=.new (.t (.s)),cuts:=[] }
abbrev Ho:Tm:={ sl:=[(0, .dp (.st .GPensionref5_reader)),(1, .t (.i .i64)),(5, .t (.i .i64))],ob:=[] }
noncomputable def f230:FI:={ fid:=230,fn:=Tryz.f230,c:=ai Tryz.f230,ins:={ sl:=[(0, .dp (.st .GPensionref5_reader)),(1, .t (.i .i64))] },out:=.new (.t (.i .i64)),cuts:=[(26,Ho)] }
abbrev DN:Tm:={ sl:=[(0, .k (.ptr 0 4 0 0)),(1, .t (.i .i64)),(4, .k (.ptr 1 6 0 0)),(8, .k (.ptr 2 6 0 0)),(1000000, .k (.ptr 0 4 0 0))],ob:=[.box [.t (.st .GPensionref5_reader)], .box [.t (.i .i64), .t (.st .GFraction), .t (.i .i64), .t (.s), .k (.c .nil)], .box [.t (.i .i64), .t (.st .GFraction), .t (.i .i64), .t (.s), .t (.ls (.st .GExpr))]] }
noncomputable def f206:FI:={ fid:=206,fn:=Tryz.f206,c:=ai Tryz.f206,ins:={ sl:=[(0, .k (.ptr 0 4 0 0)),(1, .t (.i .i64)),(1000000, .k (.ptr 0 4 0 0))],ob:=[.box [.t (.st .GPensionref5_reader)]] },out:=.gen ({ sl:=[(1000000, .k (.ptr 0 4 0 0)),(2000000, .tp [.t (.st .GExpr)])],ob:=[.box [.t (.st .GPensionref5_reader)]] }),cuts:=[(124,DN)] }
abbrev CP:Tm:={ sl:=[(0, .k (.ptr 0 4 0 0)),(1000000, .k (.ptr 0 4 0 0)),(1000001, .k (.ptr 1 8 0 0))],ob:=[.box [.t (.st .GPensionref5_reader)], .box [.t (.i .i64), .t (.st .GRounding), .k (.row 2 2), .k (.row 3 3), .k (.row 4 7), .k (.row 5 13), .k (.row 6 7)], .row 251 (.st .GCredit), .row 253 (.st .GIndex), .row 258 (.st .GLet), .row 261 (.st .GGrant), .row 263 (.st .GReduce)] }
abbrev Au:Tm:={ sl:=[(0, .k (.ptr 0 4 0 0)),(1, .k (.ptr 1 8 0 0)),(4, .k (.ptr 2 2 0 0)),(1000000, .k (.ptr 0 4 0 0)),(1000001, .k (.ptr 1 8 0 0))],ob:=[.box [.t (.st .GPensionref5_reader)], .box [.t (.i .i64), .t (.st .GRounding), .k (.row 3 2), .k (.row 4 3), .k (.row 5 7), .k (.row 6 13), .k (.row 7 7)], .box [.t (.st .GCredit)], .row 251 (.st .GCredit), .row 253 (.st .GIndex), .row 258 (.st .GLet), .row 261 (.st .GGrant), .row 263 (.st .GReduce)] }
abbrev xp:Tm:={ sl:=[(0, .k (.ptr 0 4 0 0)),(1, .k (.ptr 1 8 0 0)),(6, .k (.ptr 2 3 0 0)),(1000000, .k (.ptr 0 4 0 0)),(1000001, .k (.ptr 1 8 0 0))],ob:=[.box [.t (.st .GPensionref5_reader)], .box [.t (.i .i64), .t (.st .GRounding), .k (.row 3 2), .k (.row 4 3), .k (.row 5 7), .k (.row 6 13), .k (.row 7 7)], .box [.t (.st .GIndex)], .row 251 (.st .GCredit), .row 253 (.st .GIndex), .row 258 (.st .GLet), .row 261 (.st .GGrant), .row 263 (.st .GReduce)] }
abbrev xz:Tm:={ sl:=[(0, .k (.ptr 0 4 0 0)),(1, .k (.ptr 1 8 0 0)),(6, .k (.ptr 2 3 0 0)),(1000000, .k (.ptr 0 4 0 0)),(1000001, .k (.ptr 1 8 0 0))],ob:=[.box [.t (.st .GPensionref5_reader)], .box [.t (.i .i64), .t (.st .GRounding), .k (.row 3 2), .k (.row 4 3), .k (.row 5 7), .k (.row 6 13), .k (.row 7 7)], .box [.t (.st .GIndex)], .row 251 (.st .GCredit), .row 253 (.st .GIndex), .row 258 (.st .GLet), .row 261 (.st .GGrant), .row 263 (.st .GReduce)] }
noncomputable def iF:FI:={ fid:=164,fn:=Tryz.f164,c:=ai Tryz.f164,ins:={ sl:=[(0, .k (.ptr 0 4 0 0)),(1, .k (.ptr 1 8 0 0)),(1000000, .k (.ptr 0 4 0 0)),(1000001, .k (.ptr 1 8 0 0))],ob:=[.box [.t (.st .GPensionref5_reader)], .box [.t (.i .i64), .t (.st .GRounding), .k (.row 2 2), .k (.row 3 3), .k (.row 4 7), .k (.row 5 13), .k (.row 6 7)], .row 251 (.st .GCredit), .row 253 (.st .GIndex), .row 258 (.st .GLet), .row 261 (.st .GGrant), .row 263 (.st .GReduce)] },out:=.gen ({ sl:=[(1000000, .k (.ptr 0 4 0 0)),(1000001, .k (.ptr 1 8 0 0)),(2000000, .tp [.tp []])],ob:=[.box [.t (.st .GPensionref5_reader)], .box [.t (.i .i64), .t (.st .GRounding), .k (.row 2 2), .k (.row 3 3), .k (.row 4 7), .k (.row 5 13), .k (.row 6 7)], .row 251 (.st .GCredit), .row 253 (.st .GIndex), .row 258 (.st .GLet), .row 261 (.st .GGrant), .row 263 (.st .GReduce)] }),cuts:=[(3,CP),(75,Au),(315,xp),(631,xz)] }
abbrev HB:Tm:={ sl:=[(0, .k (.ptr 0 4 0 0)),(2, .k (.ptr 1 8 0 0)),(3, .k (.ptr 2 8 0 0)),(1000000, .k (.ptr 0 4 0 0))],ob:=[.box [.t (.st .GPensionref5_reader)], .box [.t (.i .i64), .t (.st .GRounding), .k (.c .nil), .k (.c .nil), .k (.c .nil), .k (.c .nil), .k (.c .nil)], .box [.t (.i .i64), .t (.st .GRounding), .k (.c .nil), .k (.c .nil), .k (.c .nil), .k (.c .nil), .k (.c .nil)]] }
abbrev Al:Tm:={ sl:=[(0, .k (.ptr 0 4 0 0)),(2, .k (.ptr 1 8 0 0)),(3, .k (.ptr 2 8 0 0)),(1000000, .k (.ptr 0 4 0 0))],ob:=[.box [.t (.st .GPensionref5_reader)], .box [.t (.i .i64), .t (.st .GRounding), .k (.c .nil), .k (.c .nil), .k (.c .nil), .k (.c .nil), .k (.c .nil)], .box [.t (.i .i64), .t (.st .GRounding), .k (.row 3 2), .k (.row 4 3), .k (.row 5 7), .k (.row 6 13), .k (.row 7 7)], .row 251 (.st .GCredit), .row 253 (.st .GIndex), .row 258 (.st .GLet), .row 261 (.st .GGrant), .row 263 (.st .GReduce)] }
noncomputable def f125:FI:={ fid:=125,fn:=Tryz.f125,c:=ai Tryz.f125,ins:={ sl:=[(0, .k (.ptr 0 4 0 0)),(1000000, .k (.ptr 0 4 0 0))],ob:=[.box [.t (.st .GPensionref5_reader)]] },out:=.gen ({ sl:=[(1000000, .k (.ptr 0 4 0 0)),(2000000, .tp [.t (.st .GVersion)])],ob:=[.box [.t (.st .GPensionref5_reader)]] }),cuts:=[(31,HB),(4092,Al)] }
noncomputable def f126:FI:={ fid:=126,fn:=Tryz.f126,c:=ai Tryz.f126,ins:={ sl:=[(0, .dp (.st .GPensionref5_reader))] },out:=.new (.t (.i .i64)),cuts:=[] }
noncomputable def f207:FI:={ fid:=207,fn:=Tryz.f207,c:=ai Tryz.f207,ins:={ sl:=[(0, .t (.st .GRounding))] },out:=.new (.t (.b)),cuts:=[] }
abbrev HG:Tm:={ sl:=[(0, .t (.i .i64)),(1, .t (.i .i64)),(5, .k (.row 0 1)),(6, .t (.i .i64))],ob:=[.row 9 (.s)] }
noncomputable def f208:FI:={ fid:=208,fn:=Tryz.f208,c:=ai Tryz.f208,ins:={ sl:=[(0, .t (.i .i64)),(1, .t (.i .i64))] },out:=.new (.t (.s)),cuts:=[(58,HG)] }
noncomputable def f231:FI:={ fid:=231,fn:=Tryz.f231,c:=ai Tryz.f231,ins:={ sl:=[(0, .t (.st .GFraction))] },out:=.new (.t (.b)),cuts:=[] }
abbrev Gb:Tm:={ sl:=[(0, .t (.i .i64)),(1, .t (.i .i64)),(5, .t (.s))],ob:=[] }
noncomputable def f249:FI:={ fid:=249,fn:=Tryz.f249,c:=ai Tryz.f249,ins:={ sl:=[(0, .t (.i .i64)),(1, .t (.i .i64))] },out:=.new (.t (.s)),cuts:=[(28,Gb)] }
abbrev Gc:Tm:={ sl:=[(1, .k (.ptr 0 2 0 0)),(3, .t (.s))],ob:=[.box [.t (.st .GFraction)]] }
noncomputable def f232:FI:={ fid:=232,fn:=Tryz.f232,c:=ai Tryz.f232,ins:={ sl:=[(0, .t (.st .GFraction))] },out:=.new (.t (.s)),cuts:=[(31,Gc)] }
abbrev zu:Tm:={ sl:=[(1, .t (.i .i64)),(7, .t (.s)),(8, .t (.i .i64)),(9, .t (.i .i64))],ob:=[] }
noncomputable def f209:FI:={ fid:=209,fn:=Tryz.f209,c:=ai Tryz.f209,ins:={ sl:=[(0, .t (.st .GFraction)),(1, .t (.i .i64))] },out:=.new (.tp [.t (.s), .t (.b)]),cuts:=[(2042,zu)] }
abbrev Gx:Tm:={ sl:=[(1, .k (.ptr 0 6 0 0)),(3, .t (.i .i64)),(4, .t (.i .i64))],ob:=[.box [.t (.i .i64), .t (.st .GFraction), .t (.i .i64), .t (.s), .t (.ls (.st .GExpr))]] }
noncomputable def f233:FI:={ fid:=233,fn:=Tryz.f233,c:=ai Tryz.f233,ins:={ sl:=[(0, .t (.st .GExpr))] },out:=.data (.t (.i .i64)),cuts:=[(58,Gx)] }
abbrev GT:Tm:={ sl:=[(1, .k (.ptr 0 6 0 0)),(3, .t (.i .i64)),(4, .t (.i .i64))],ob:=[.box [.t (.i .i64), .t (.st .GFraction), .t (.i .i64), .t (.s), .t (.ls (.st .GExpr))]] }
noncomputable def f234:FI:={ fid:=234,fn:=Tryz.f234,c:=ai Tryz.f234,ins:={ sl:=[(0, .t (.st .GExpr))] },out:=.data (.t (.i .i64)),cuts:=[(58,GT)] }
abbrev C1:Tm:={ sl:=[(1, .k (.ptr 0 6 0 0)),(3, .t (.b)),(6, .t (.i .i64))],ob:=[.box [.t (.i .i64), .t (.st .GFraction), .t (.i .i64), .t (.s), .t (.ls (.st .GExpr))]] }
noncomputable def f235:FI:={ fid:=235,fn:=Tryz.f235,c:=ai Tryz.f235,ins:={ sl:=[(0, .t (.st .GExpr))] },out:=.new (.t (.b)),cuts:=[(250,C1)] }
noncomputable def f210:FI:={ fid:=210,fn:=Tryz.f210,c:=ai Tryz.f210,ins:={ sl:=[(0, .t (.st .GExpr))] },out:=.new (.t (.b)),cuts:=[] }
abbrev Gq:Tm:={ sl:=[(1, .k (.ptr 0 8 0 0)),(3, .t (.i .i64))],ob:=[.box [.t (.i .i64), .t (.st .GRounding), .t (.ls (.st .GCredit)), .t (.ls (.st .GIndex)), .t (.ls (.st .GLet)), .t (.ls (.st .GGrant)), .t (.ls (.st .GReduce))]] }
abbrev CL:Tm:={ sl:=[(1, .k (.ptr 0 8 0 0)),(4, .t (.i .i64))],ob:=[.box [.t (.i .i64), .t (.st .GRounding), .t (.ls (.st .GCredit)), .t (.ls (.st .GIndex)), .t (.ls (.st .GLet)), .t (.ls (.st .GGrant)), .t (.ls (.st .GReduce))]] }
abbrev CJ:Tm:={ sl:=[(1, .k (.ptr 0 8 0 0)),(7, .t (.i .i64))],ob:=[.box [.t (.i .i64), .t (.st .GRounding), .t (.ls (.st .GCredit)), .t (.ls (.st .GIndex)), .t (.ls (.st .GLet)), .t (.ls (.st .GGrant)), .t (.ls (.st .GReduce))]] }
abbrev Da:Tm:={ sl:=[(1, .k (.ptr 0 8 0 0)),(8, .t (.i .i64))],ob:=[.box [.t (.i .i64), .t (.st .GRounding), .t (.ls (.st .GCredit)), .t (.ls (.st .GIndex)), .t (.ls (.st .GLet)), .t (.ls (.st .GGrant)), .t (.ls (.st .GReduce))]] }
abbrev zZ:Tm:={ sl:=[(1, .k (.ptr 0 8 0 0)),(9, .t (.i .i64))],ob:=[.box [.t (.i .i64), .t (.st .GRounding), .t (.ls (.st .GCredit)), .t (.ls (.st .GIndex)), .t (.ls (.st .GLet)), .t (.ls (.st .GGrant)), .t (.ls (.st .GReduce))]] }
noncomputable def f165:FI:={ fid:=165,fn:=Tryz.f165,c:=ai Tryz.f165,ins:={ sl:=[(0, .t (.st .GVersion))] },out:=.new (.t (.b)),cuts:=[(58,Gq),(122,CL),(250,CJ),(506,Da),(1018,zZ)] }
abbrev G1:Tm:={ sl:=[(1, .k (.ptr 0 3 0 0)),(3, .t (.i .i64))],ob:=[.box [.t (.s), .t (.i .i64), .t (.ls (.st .GVersion))]] }
noncomputable def f127:FI:={ fid:=127,fn:=Tryz.f127,c:=ai Tryz.f127,ins:={ sl:=[(0, .t (.st .GStatute))] },out:=.new (.t (.b)),cuts:=[(58,G1)] }
abbrev CX:Tm:={ sl:=[(2, .k (.ptr 0 3 0 0)),(5, .k (.ptr 1 4 0 0)),(8, .k (.ptr 2 3 0 0)),(9, .t (.b))],ob:=[.box [.t (.s), .t (.i .i64), .k (.c .nil)], .box [.t (.st .GPensionref5_reader)], .box [.t (.s), .t (.i .i64), .k (.row 3 8)], .row 178 (.st .GVersion)] }
noncomputable def f81:FI:={ fid:=81,fn:=Tryz.f81,c:=ai Tryz.f81,ins:={ sl:=[(0, .t (.s))] },out:=.data (.tp [.t (.st .GStatute), .t (.i .i64), .t (.i .i64)]),cuts:=[(4090,CX)] }
abbrev KR:Tm:={ sl:=[(0, .t (.ls (.i .i64))),(2, .k (.ptr 0 3 0 0)),(3, .k (.ptr 1 3 0 0)),(4, .t (.i .i64))],ob:=[.box [.k (.c .nil), .k (.c .nil), .k (.c .nil)], .box [.k (.row 2 4), .k (.c .nil), .k (.row 3 4)], .row 126 (.st .GState), .row 118 (.st .GRate)] }
noncomputable def f50:FI:={ fid:=50,fn:=Tryz.f50,c:=ai Tryz.f50,ins:={ sl:=[(0, .t (.ls (.i .i64)))],ob:=[] },out:=.gen ({ sl:=[(2000000, .tp [.ag [.k (.row 0 4), .k (.row 1 5), .k (.row 2 4)]])],ob:=[.row 126 (.st .GState), .row 42 (.st .GRules), .row 118 (.st .GRate)] }),cuts:=[(58,KR)] }
abbrev Hw:Tm:={ sl:=[(1, .t (.i .i64)),(5, .k (.row 0 5)),(6, .t (.i .i64))],ob:=[.row 42 (.st .GRules)] }
noncomputable def f19:FI:={ fid:=19,fn:=Tryz.f19,c:=ai Tryz.f19,ins:={ sl:=[(0, .t (.ls (.i .i64))),(1, .t (.i .i64))] },out:=.own false 42 (.st .GRules),cuts:=[(234,Hw)] }
noncomputable def f20:FI:={ fid:=20,fn:=Tryz.f20,c:=ai Tryz.f20,ins:={ sl:=[(0, .t (.i .i64)),(1, .t (.b))] },out:=.new (.t (.i .i64)),cuts:=[] }
abbrev L8:Tm:={ sl:=[(0, .t (.ls (.st .GRules))),(1, .t (.i .i64)),(4, .k (.ptr 0 5 0 0)),(6, .t (.i .i64))],ob:=[.box [.t (.st .GRules)]] }
noncomputable def f51:FI:={ fid:=51,fn:=Tryz.f51,c:=ai Tryz.f51,ins:={ sl:=[(0, .t (.ls (.st .GRules))),(1, .t (.i .i64))] },out:=.new (.tp [.t (.st .GRules), .t (.b)]),cuts:=[(26,L8)] }
abbrev HH:Tm:={ sl:=[(0, .t (.ls (.st .GRules))),(3, .t (.i .i64))],ob:=[] }
abbrev Bg:Tm:={ sl:=[(0, .t (.ls (.st .GRules))),(3, .t (.i .i64)),(4, .k (.ptr 0 5 0 0)),(5, .t (.i .i64))],ob:=[.box [.t (.st .GRules)]] }
noncomputable def f52:FI:={ fid:=52,fn:=Tryz.f52,c:=ai Tryz.f52,ins:={ sl:=[(0, .t (.ls (.st .GRules)))] },out:=.new (.t (.i .i64)),cuts:=[(122,HH),(31310,Bg)] }
noncomputable def f53:FI:={ fid:=53,fn:=Tryz.f53,c:=ai Tryz.f53,ins:={ sl:=[(0, .t (.st .GSpan)),(1, .t (.i .i64))] },out:=.new (.t (.b)),cuts:=[] }
abbrev F5:Tm:={ sl:=[(0, .t (.ls (.st .GFact))),(1, .t (.i .i64)),(4, .k (.ptr 0 1 0 0)),(5, .k (.ptr 1 1 0 0)),(6, .t (.i .i64))],ob:=[.row 184 (.i .i64), .row 184 (.i .i64)] }
noncomputable def f130:FI:={ fid:=130,fn:=Tryz.f130,c:=ai Tryz.f130,ins:={ sl:=[(0, .t (.ls (.st .GFact))),(1, .t (.i .i64))] },out:=.new (.t (.arr 6 (.i .i64))),cuts:=[(58,F5)] }
abbrev GV:Tm:={ sl:=[(0, .t (.ls (.st .GFact))),(1, .t (.i .i64)),(6, .k (.row 0 14)),(7, .t (.i .i64)),(8, .t (.i .i64))],ob:=[.row 38 (.st .GFact)] }
noncomputable def f22:FI:={ fid:=22,fn:=Tryz.f22,c:=ai Tryz.f22,ins:={ sl:=[(0, .t (.ls (.st .GFact))),(1, .t (.i .i64))] },out:=.new (.tp [.t (.i .i64), .t (.b)]),cuts:=[(122,GV)] }
abbrev GW:Tm:={ sl:=[(0, .t (.ls (.st .GFact))),(1, .t (.i .i64)),(5, .t (.ls (.i .i64))),(6, .t (.i .i64))],ob:=[] }
noncomputable def f131:FI:={ fid:=131,fn:=Tryz.f131,c:=ai Tryz.f131,ins:={ sl:=[(0, .t (.ls (.st .GFact))),(1, .t (.i .i64))] },out:=.data (.t (.ls (.i .i64))),cuts:=[(58,GW)] }
abbrev Hx:Tm:={ sl:=[(0, .t (.ls (.st .GFact))),(1, .t (.ls (.st .GFact))),(3, .t (.i .i64)),(6, .k (.ptr 0 5 0 0)),(10, .k (.ptr 1 1 0 0)),(11, .t (.i .i64)),(12, .t (.i .i64)),(13, .t (.i .i64)),(14, .t (.i .i64))],ob:=[.box [.t (.st .GRules)], .row 184 (.i .i64)] }
noncomputable def f84:FI:={ fid:=84,fn:=Tryz.f84,c:=ai Tryz.f84,ins:={ sl:=[(0, .t (.ls (.st .GFact))),(1, .t (.ls (.st .GFact))),(2, .t (.st .GRules)),(3, .t (.i .i64))] },out:=.new (.tp [.t (.i .i64), .t (.b)]),cuts:=[(122,Hx)] }
abbrev J4:Tm:={ sl:=[(0, .t (.ls (.st .GFact))),(1, .t (.ls (.st .GFact))),(2, .t (.ls (.st .GPosting))),(4, .t (.i .i64)),(8, .k (.ptr 0 5 0 0)),(12, .t (.i .i64)),(13, .t (.i .i64))],ob:=[.box [.t (.st .GRules)]] }
abbrev F6:Tm:={ sl:=[(0, .t (.ls (.st .GFact))),(1, .t (.ls (.st .GFact))),(4, .t (.i .i64)),(8, .k (.ptr 0 5 0 0)),(12, .t (.i .i64)),(14, .t (.i .i64))],ob:=[.box [.t (.st .GRules)]] }
abbrev DM:Tm:={ sl:=[(0, .t (.ls (.st .GFact))),(1, .t (.ls (.st .GFact))),(4, .t (.i .i64)),(12, .t (.i .i64)),(17, .t (.i .i64))],ob:=[] }
noncomputable def f54:FI:={ fid:=54,fn:=Tryz.f54,c:=ai Tryz.f54,ins:={ sl:=[(0, .t (.ls (.st .GFact))),(1, .t (.ls (.st .GFact))),(2, .t (.ls (.st .GPosting))),(3, .t (.st .GRules)),(4, .t (.i .i64))] },out:=.new (.tp [.t (.i .i64), .t (.i .i64)]),cuts:=[(58,J4),(250,F6),(2042,DM)] }
noncomputable def f21:FI:={ fid:=21,fn:=Tryz.f21,c:=ai Tryz.f21,ins:={ sl:=[(0, .t (.ls (.st .GFact))),(1, .t (.ls (.st .GRules))),(2, .t (.i .i64))] },out:=.new (.tp [.t (.i .i64), .t (.i .i64)]),cuts:=[] }
noncomputable def f5:FI:={ fid:=5,fn:=Tryz.f5,c:=ai Tryz.f5,ins:={ sl:=[(0, .t (.ls (.st .GPensionhand_Fact))),(1, .t (.ls (.i .i64))),(2, .t (.b)),(3, .t (.i .i64)),(4, .t (.i .i64))] },out:=.new (.t (.b)),cuts:=[] }
abbrev U3:Tm:={ sl:=[(0, .t (.ls (.st .GPensionhand_Fact))),(1, .t (.ls (.i .i64))),(2, .t (.i .i64)),(7, .k (.row 0 14)),(8, .t (.i .i64))],ob:=[.row 38 (.st .GFact)] }
noncomputable def f6:FI:={ fid:=6,fn:=Tryz.f6,c:=ai Tryz.f6,ins:={ sl:=[(0, .t (.ls (.st .GPensionhand_Fact))),(1, .t (.ls (.i .i64))),(2, .t (.i .i64))] },out:=.new (.t (.b)),cuts:=[(122,U3)] }
abbrev Ko:Tm:={ sl:=[(1, .k (.ptr 0 5 0 0)),(3, .k (.row 1 1)),(18, .t (.ls (.st .GFact))),(19, .t (.i .i64)),(20, .t (.i .i64))],ob:=[.box [.t (.st .GCompetence_life)], .row 3 (.i .i64)] }
abbrev Gv:Tm:={ sl:=[(1, .k (.ptr 0 5 0 0)),(3, .k (.row 1 1)),(35, .t (.ls (.st .GRules))),(36, .t (.i .i64)),(37, .t (.i .i64))],ob:=[.box [.t (.st .GCompetence_life)], .row 3 (.i .i64)] }
abbrev Aa:Tm:={ sl:=[(1, .k (.ptr 0 5 0 0)),(3, .k (.row 1 1)),(7, .k (.ptr 2 5 0 0)),(35, .t (.ls (.st .GRules))),(36, .t (.i .i64)),(37, .t (.i .i64)),(47, .t (.ls (.st .GPosting))),(48, .t (.i .i64)),(49, .t (.i .i64))],ob:=[.box [.t (.st .GCompetence_life)], .row 3 (.i .i64), .box [.t (.st .GRules)]] }
noncomputable def f58:FI:={ fid:=58,fn:=Tryz.f58,c:=ai Tryz.f58,ins:={ sl:=[(0, .t (.st .GCompetence_life))] },out:=.own true 3 (.i .i64),cuts:=[(58,Ko),(122,Gv),(62670,Aa)] }
abbrev GH:Tm:={ sl:=[(5, .k (.ptr 0 5 0 0)),(7, .k (.row 1 4)),(8, .k (.row 2 1)),(9, .t (.i .i64))],ob:=[.box [.t (.st .GCompetence_life)], .row 62 (.st .GSegment), .row 3 (.i .i64)] }
noncomputable def f28:FI:={ fid:=28,fn:=Tryz.f28,c:=ai Tryz.f28,ins:={ sl:=[(0, .t (.ls (.st .GFact))),(1, .t (.ls (.st .GRules)))] },out:=.own true 62 (.st .GSegment),cuts:=[(506,GH)] }
abbrev Gh:Tm:={ sl:=[(0, .t (.ls (.st .GFact))),(1, .t (.ls (.st .GRules))),(5, .k (.row 0 14)),(6, .k (.row 1 4)),(7, .k (.ptr 2 2 0 0)),(8, .t (.ls (.i .i64))),(9, .t (.i .i64))],ob:=[.row 38 (.st .GFact), .row 32 (.st .GPosting), .box [.t (.st .GSpan)]] }
abbrev Gf:Tm:={ sl:=[(0, .t (.ls (.st .GFact))),(1, .t (.ls (.st .GRules))),(5, .k (.row 0 14)),(6, .k (.row 1 4)),(7, .k (.ptr 2 2 0 0)),(8, .t (.ls (.i .i64))),(10, .t (.i .i64))],ob:=[.row 38 (.st .GFact), .row 32 (.st .GPosting), .box [.t (.st .GSpan)]] }
abbrev DY:Tm:={ sl:=[(0, .t (.ls (.st .GFact))),(1, .t (.ls (.st .GRules))),(5, .k (.row 0 14)),(6, .k (.row 1 4)),(7, .k (.ptr 2 2 0 0)),(8, .t (.ls (.i .i64))),(12, .t (.i .i64))],ob:=[.row 38 (.st .GFact), .row 32 (.st .GPosting), .box [.t (.st .GSpan)]] }
abbrev DK:Tm:={ sl:=[(0, .t (.ls (.st .GFact))),(1, .t (.ls (.st .GRules))),(5, .k (.row 0 14)),(6, .k (.row 1 4)),(7, .k (.ptr 2 2 0 0)),(8, .t (.ls (.i .i64))),(13, .k (.row 3 4)),(14, .t (.i .i64))],ob:=[.row 38 (.st .GFact), .row 32 (.st .GPosting), .box [.t (.st .GSpan)], .row 62 (.st .GSegment)] }
abbrev AT:Tm:={ sl:=[(0, .t (.ls (.st .GFact))),(1, .t (.ls (.st .GRules))),(5, .k (.row 0 14)),(6, .k (.row 1 4)),(7, .k (.ptr 2 2 0 0)),(8, .t (.ls (.i .i64))),(10, .t (.i .i64)),(11, .t (.i .i64))],ob:=[.row 38 (.st .GFact), .row 32 (.st .GPosting), .box [.t (.st .GSpan)]] }
noncomputable def f23:FI:={ fid:=23,fn:=Tryz.f23,c:=ai Tryz.f23,ins:={ sl:=[(0, .t (.ls (.st .GFact))),(1, .t (.ls (.st .GRules)))] },out:=.own true 62 (.st .GSegment),cuts:=[(250,Gh),(506,Gf),(1018,DY),(4090,DK),(64806,AT)] }
abbrev KG:Tm:={ sl:=[(0, .t (.ls (.st .GSegment))),(1, .t (.ls (.st .GSegment))),(5, .t (.i .i64))],ob:=[] }
noncomputable def f27:FI:={ fid:=27,fn:=Tryz.f27,c:=ai Tryz.f27,ins:={ sl:=[(0, .t (.ls (.st .GSegment))),(1, .t (.ls (.st .GSegment)))] },out:=.new (.t (.b)),cuts:=[(58,KG)] }
noncomputable def f8:FI:={ fid:=8,fn:=Tryz.f8,c:=ai Tryz.f8,ins:={ sl:=[(0, .t (.ls (.st .GPensionhand_Fact))),(1, .t (.ls (.i .i64))),(2, .t (.b)),(3, .t (.i .i64))] },out:=.new (.t (.b)),cuts:=[] }
abbrev G5:Tm:={ sl:=[(4, .t (.i .i64)),(13, .k (.row 0 4)),(14, .t (.i .i64)),(15, .t (.i .i64)),(16, .t (.i .i64)),(17, .t (.i .i64))],ob:=[.row 62 (.st .GSegment)] }
noncomputable def f9:FI:={ fid:=9,fn:=Tryz.f9,c:=ai Tryz.f9,ins:={ sl:=[(0, .t (.ls (.st .GPensionhand_Fact))),(1, .t (.ls (.i .i64))),(2, .t (.b)),(3, .t (.i .i64)),(4, .t (.i .i64))] },out:=.new (.t (.b)),cuts:=[(2042,G5)] }
noncomputable def Sv:XT→HP f251.ins.tys→Option (HP f251.out.tys):=fun _ (a:ByteArray × Int)=>some (Go.firstIdx a.1 a.2.toNat.toUInt8)
noncomputable def US:XT→HP f74.ins.tys→Option (HP f74.out.tys):=fun _ (a:List GRules × Int)=>nz a.1 a.2
noncomputable def Tb:jL:={ P:=Tryz.prog,fs:=[(15,[f15]),(42,[f42]),(59,[f59]),(30,[f30]),(29,[f29]),(44,[f44]),(106,[f106]),(71,[f71]),(45,[f45]),(46,[f46]),(107,[qx,f107]),(72,[f72]),(47,[f47]),(17,[f17]),(43,[f43]),(16,[f16]),(11,[f11]),(137,[f137]),(140,[f140]),(238,[f238]),(219,[f219]),(193,[f193]),(139,[f139]),(138,[f138]),(141,[f141]),(142,[f142]),(90,[f90]),(61,[f61]),(60,[f60]),(31,[f31]),(91,[f91]),(63,[f63]),(64,[f64]),(33,[f33]),(85,[f85]),(56,[f56]),(62,[f62]),(32,[f32]),(12,[f12]),(38,[f38]),(105,[f105]),(69,[f69]),(70,[f70]),(40,[f40]),(148,[f148]),(55,[f55]),(102,[f102]),(83,[f83]),(103,[f103]),(104,[f104]),(68,[f68]),(39,[f39]),(41,[f41]),(13,[f13]),(109,[f109]),(149,[f149]),(108,[f108]),(73,[f73]),(48,[f48]),(75,[f75]),(76,[f76]),(153,[f153]),(116,[f116]),(112,[f112]),(77,[f77]),(155,[f155]),(196,[f196]),(154,[f154]),(119,[f119]),(80,[f80]),(115,[f115]),(78,[f78]),(67,[f67]),(37,[f37]),(118,[f118]),(117,[f117]),(79,[f79]),(49,[f49]),(18,[f18]),(14,[f14]),(3,[f3]),(4,[f4]),(128,[f128]),(166,[f166]),(129,[f129]),(82,[f82]),(220,[f220]),(221,[f221]),(223,[f223]),(222,[f222]),(200,[f200]),(227,[f227]),(254,[f254]),(244,[f244]),(245,[f245]),(228,[f228]),(202,[f202]),(224,[f224]),(197,[f197]),(156,[f156]),(120,[f120]),(161,[f161]),(124,[f124]),(157,[f157]),(121,[f121]),(158,[f158]),(198,[f198]),(199,[f199]),(159,[f159]),(122,[f122]),(226,[f226]),(101,[f101]),(255,[f255]),(253,[f253]),(242,[f242]),(243,[f243]),(225,[f225]),(201,[f201]),(160,[f160]),(123,[f123]),(162,[f162]),(203,[f203]),(204,[f204]),(205,[f205]),(163,[f163]),(250,[f250]),(246,[f246]),(229,[f229]),(247,[f247]),(248,[f248]),(230,[f230]),(206,[f206]),(164,[iF]),(125,[f125]),(126,[f126]),(207,[f207]),(208,[f208]),(231,[f231]),(249,[f249]),(232,[f232]),(209,[f209]),(233,[f233]),(234,[f234]),(235,[f235]),(210,[f210]),(165,[f165]),(127,[f127]),(81,[f81]),(50,[f50]),(19,[f19]),(20,[f20]),(51,[f51]),(52,[f52]),(53,[f53]),(130,[f130]),(22,[f22]),(131,[f131]),(84,[f84]),(54,[f54]),(21,[f21]),(5,[f5]),(6,[f6]),(58,[f58]),(28,[f28]),(23,[f23]),(27,[f27]),(8,[f8]),(9,[f9])],sp:=(fun f=>(bif Nat.beq f 74 then .hand f74 US else (bif Nat.beq f 251 then .hand f251 Sv else (bif Nat.beq f 114 then .mut (fun _=>JQ 152) else (bif Nat.beq f 113 then .mut (fun _=>BP 152 3) else (bif Nat.beq f 89 then .mut (fun _=>yq) else (bif Nat.beq f 88 then .mut (fun _=>J0) else (bif Nat.beq f 86 then .mut (fun _=>sq 56 87 30 (.st .GSpan) ki) else (bif Nat.beq f 34 then .mut (fun _=>BA 35 32 (.st .GPosting) fH) else .none))))))))) }
theorem aj:jl Tb:=⟨fun f=>(.cnd (.h _) (.cnd (.h _) (.cnd (.m _) (.cnd (.m _) (.cnd (.m _) (.cnd (.m _) (.cnd (.m _) (.cnd (.m _) trivial))))))))⟩
noncomputable def ub (t0:ByteArray) (t1:Int):Option Int:=Sv (Xc Tb) (t0,t1)
noncomputable def uk (t:List GRules) (day:Int):Option (GRules × Bool):=US (Xc Tb) (t,day)
noncomputable def gK (n:Int) (k:Int):Option Int:=Xf Tb f15 1 f15.ins (n,k)
noncomputable def an (n:Int) (m:Int):Option Int:=Xf Tb f42 1 f42.ins (n,m)
noncomputable def aF (n:List Int) (i:Int):Option Int:=Xf Tb f59 1 f59.ins (n,i)
noncomputable def so (n:List Int):Option (List GFact):=Xf Tb f30 1 f30.ins n
noncomputable def mf (n:List Int) (p:Int) (out:List GFact):Option (List GFact):=Xf Tb f30 58 KA (n,p,out)
noncomputable def yh (l:List GFact) (person:Int):Option (List GFact):=Xf Tb f29 1 f29.ins (l,person)
noncomputable def fP (l:List GFact) (person:Int) (i:Int) (out:List GFact):Option (List GFact):=Xf Tb f29 58 Lw (l,person,i,out)
noncomputable def l8 (kind:Int):Option ByteArray:=Xf Tb f44 1 f44.ins kind
noncomputable def ym (kind:Int) (c:Int):Option Bool:=Xf Tb f106 1 f106.ins (kind,c)
noncomputable def fy (c:Int) (s:ByteArray) (i:Int):Option Bool:=Xf Tb f106 58 F1 (c,s,i)
noncomputable def cO (kind:Int) (c:Int) (n:Int) (least:Int) (most:Int):Option Bool:=Xf Tb f71 1 f71.ins (kind,c,n,least,most)
noncomputable def iX (f:GFact):Option Bool:=Xf Tb f45 1 f45.ins f
noncomputable def pt (a:GFact) (b:GFact):Option Int:=Xf Tb f46 1 f46.ins (a,b)
noncomputable def bE (n:Int) (size:Int) (b:List Int):Option (List Int):=Xf Tb qx 1 qx.ins (n,size,b)
noncomputable def jP (n:Int) (i:Int) (b:List Int):Option (List Int):=Xf Tb qx 26 Bn (n,i,b)
noncomputable def pU (f:GFact):Option (List Int):=Xf Tb f72 1 f72.ins f
noncomputable def kN (gone:Int) (f:GFact):Option (List Int):=Xf Tb f72 31 LJ (gone,f)
noncomputable def jo (s:ByteArray) (i:Int) (f:GFact) (b:List Int):Option (List Int):=Xf Tb f72 1018 CK (s,i,f,b)
noncomputable def cG (s:ByteArray) (i:Int) (f:GFact) (b:List Int):Option (List Int):=Xf Tb f72 8147 DJ (s,i,f,b)
noncomputable def oL (a:GFact) (b:GFact):Option Bool:=Xf Tb f47 1 f47.ins (a,b)
noncomputable def kD (a:List GFact) (b:List GFact):Option (List GFact):=Xf Tb f17 1 f17.ins (a,b)
noncomputable def bi (a:List GFact) (b:List GFact) (i:Int) (out:List GFact):Option (List GFact):=Xf Tb f17 58 KM (a,b,i,out)
noncomputable def jd (a:List GFact) (b:List GFact) (i:Int) (out:List GFact) (f:GFact):Option (List GFact):=Xf Tb f17 3731 De (a,b,i,out,f)
noncomputable def iR (a:List GFact) (b:List GFact) (i:Int) (xat:Int) (out:List GFact) (f:GFact):Option (List GFact):=Xf Tb f17 59708 zJ (a,b,i,xat,out,f)
noncomputable def uY (n:Int):Option Int:=Xf Tb f43 1 f43.ins n
noncomputable def A1 (r:GPensionhand_Fact):Option GFact:=Xf Tb f16 1 f16.ins r
noncomputable def gO (xfrom:Int) (to:Int) (r:GPensionhand_Fact) (t2:GFact) (f:GFact):Option GFact:=Xf Tb f16 127 GG (xfrom,to,r,t2,f)
noncomputable def kS (xfrom:Int) (to:Int) (u:ByteArray) (i:Int) (r:GPensionhand_Fact) (t2:GFact) (f:GFact):Option GFact:=Xf Tb f16 2042 CH (xfrom,to,u,i,r,t2,f)
noncomputable def cA (xfrom:Int) (to:Int) (u:ByteArray) (i:Int) (r:GPensionhand_Fact) (t2:GFact) (f:GFact):Option GFact:=Xf Tb f16 16339 Bl (xfrom,to,u,i,r,t2,f)
noncomputable def ol (l:List GPensionhand_Fact) (n:List Int) (dense:Bool):Option (List GFact):=Xf Tb f11 1 f11.ins (l,n,dense)
noncomputable def kd (l:List GPensionhand_Fact) (n:List Int) (dense:Bool) (i:Int) (out:List GFact):Option (List GFact):=Xf Tb f11 58 Mi (l,n,dense,i,out)
noncomputable def fM (l:List GPensionhand_Fact) (n:List Int) (dense:Bool) (i:Int) (out:List GFact) (r:GPensionhand_Fact):Option (List GFact):=Xf Tb f11 7463 DO (l,n,dense,i,out,r)
noncomputable def zY (kind:Int):Option ByteArray:=Xf Tb f137 1 f137.ins kind
noncomputable def pz (t3:Int) (t6:Bool):Option ByteArray:=Xf Tb f137 215 DG (t3,t6)
noncomputable def iC (t3:Int) (t11:Bool):Option ByteArray:=Xf Tb f137 3455 AK (t3,t11)
noncomputable def ji (t3:Int) (t20:Bool):Option ByteArray:=Xf Tb f137 221183 u4 (t3,t20)
noncomputable def iW (x:Int) (low:Int) (high:Int):Option Bool:=Xf Tb f140 1 f140.ins (x,low,high)
noncomputable def nA (s:ByteArray) (c:Int):Option Int:=Xf Tb f238 1 f238.ins (s,c)
noncomputable def rx (s:ByteArray) (substr:ByteArray):Option Int:=Xf Tb f219 1 f219.ins (s,substr)
noncomputable def yW (s:ByteArray) (substr:ByteArray):Option Int:=Xf Tb f193 1 f193.ins (s,substr)
noncomputable def sJ (s:ByteArray) (substr:ByteArray):Option Bool:=Xf Tb f139 1 f139.ins (s,substr)
noncomputable def cb (letter:ByteArray) (t1:ByteArray):Option Bool:=Xf Tb f138 1 f138.ins (letter,t1)
noncomputable def cU (used:Bool) (x:Int) (low:Int) (high:Int):Option Bool:=Xf Tb f141 1 f141.ins (used,x,low,high)
noncomputable def pk (s:GSpan):Option Bool:=Xf Tb f142 1 f142.ins s
noncomputable def yj (f:GFact):Option Bool:=Xf Tb f90 1 f90.ins f
noncomputable def gW (t89:Int) (t97:Bool) (f:GFact):Option Bool:=Xf Tb f90 2007 CY (t89,t97,f)
noncomputable def ju (f:GFact):Option Bool:=Xf Tb f61 1 f61.ins f
noncomputable def yK (l:List GFact):Option (List GFact):=Xf Tb f60 1 f60.ins l
noncomputable def cJ (t8:List GFact) (t9:Int) (t10:Int) (out:List GFact):Option (List GFact):=Xf Tb f60 58 K2 (t8,t9,t10,out)
noncomputable def mi (l:List GFact):Option (List GFact):=Xf Tb f31 1 f31.ins l
noncomputable def oB (l:List GFact) (kind:Int):Option (Int × Bool):=Xf Tb f91 1 f91.ins (l,kind)
noncomputable def dy (kind:Int) (day:Int) (ok:Bool) (t10:List GFact) (t11:Int) (t12:Int):Option (Int × Bool):=Xf Tb f91 58 Mo (kind,day,ok,t10,t11,t12)
noncomputable def s8 (l:List GFact):Option (Int × Bool):=Xf Tb f63 1 f63.ins l
noncomputable def tc (l:List GFact):Option (Int × Bool):=Xf Tb f64 1 f64.ins l
noncomputable def mz (l:List GFact):Option GSpan:=Xf Tb f33 1 f33.ins l
noncomputable def vG (s:GSpan):Option GSpan:=Xf Tb f85 1 f85.ins s
noncomputable def sa (l:List GSpan):Option (List GSpan):=Xf Tb f56 1 f56.ins l
noncomputable def eh (t10:List GSpan) (t11:Int) (t12:Int) (sorted:List GSpan):Option (List GSpan):=Xf Tb f56 58 L5 (t10,t11,t12,sorted)
noncomputable def dT (t33:Int) (t34:Int) (out:List GSpan) (t32:List GSpan):Option (List GSpan):=Xf Tb f56 506 HU (t33,t34,out,t32)
noncomputable def uN (a:List GSpan) (b:List GSpan):Option (List GSpan):=Xf Tb f62 1 f62.ins (a,b)
noncomputable def bQ (i:Int) (j:Int) (a:List GSpan) (b:List GSpan) (out:List GSpan):Option (List GSpan):=Xf Tb f62 122 HL (i,j,a,b,out)
noncomputable def jv (i:Int) (j:Int) (a:List GSpan) (b:List GSpan) (out:List GSpan):Option (List GSpan):=Xf Tb f62 3915 Dr (i,j,a,b,out)
noncomputable def yu (l:List GSpan) (s:GSpan):Option (List GSpan):=Xf Tb f32 1 f32.ins (l,s)
noncomputable def di (l:List GFact):Option (List GPosting):=Xf Tb f12 1 f12.ins l
noncomputable def eD (l:List GFact) (out:List GPosting) (w1s:Int) (w1l:List Int) (m2_k:List GCompetence_route) (m2_v:List (List GSpan)):Option (List GPosting):=Xf Tb f12 250 GD (l,out,w1s,w1l,m2_k,m2_v)
noncomputable def bK (l:List GFact) (t49:Int) (t50:Int) (out:List GPosting) (r:GCompetence_route) (w2s:Int) (w2l:List Int) (t48:List GSpan) (m4_k:List GCompetence_route) (m4_v:List (List GSpan)):Option (List GPosting):=Xf Tb f12 32054 Ak (l,t49,t50,out,r,w2s,w2l,t48,m4_k,m4_v)
noncomputable def iw (l:List GFact):Option (List GFact):=Xf Tb f38 1 f38.ins l
noncomputable def dc (l:List GFact) (i:Int) (out:List GFact):Option (List GFact):=Xf Tb f38 58 KI (l,i,out)
noncomputable def pQ (l:List GFact) (kind:Int):Option (Int × Bool):=Xf Tb f105 1 f105.ins (l,kind)
noncomputable def dE (kind:Int) (day:Int) (ok:Bool) (i:Int) (c:List GFact):Option (Int × Bool):=Xf Tb f105 122 C2 (kind,day,ok,i,c)
noncomputable def vu (l:List GFact):Option (Int × Bool):=Xf Tb f69 1 f69.ins l
noncomputable def vz (l:List GFact):Option (Int × Bool):=Xf Tb f70 1 f70.ins l
noncomputable def nQ (l:List GFact):Option GSpan:=Xf Tb f40 1 f40.ins l
noncomputable def tr (s:GSpan):Option (GSpan × Bool):=Xf Tb f148 1 f148.ins s
noncomputable def cV (l:List Int) (n:Int):Option (List Int):=Xf Tb f55 1 f55.ins (l,n)
noncomputable def jy (l:List Int) (n:Int) (xat:Int):Option (List Int):=Xf Tb f55 28 Ki (l,n,xat)
noncomputable def xR (lists:List (List GSpan)):Option (List Int):=Xf Tb f102 1 f102.ins lists
noncomputable def fw (lists:List (List GSpan)) (out:List Int) (i:Int):Option (List Int):=Xf Tb f102 58 GE (lists,out,i)
noncomputable def dD (lists:List (List GSpan)) (out:List Int) (i:Int) (k:Int):Option (List Int):=Xf Tb f102 3730 zG (lists,out,i,k)
noncomputable def it (day:Int):Option Bool:=Xf Tb f83 1 f83.ins day
noncomputable def mY (l:List GSpan) (day:Int):Option Bool:=Xf Tb f103 1 f103.ins (l,day)
noncomputable def cH (l:List GSpan) (day:Int) (i:Int):Option Bool:=Xf Tb f103 26 Hh (l,day,i)
noncomputable def Dl (l:List GSpan) (s:GSpan):Option (List GSpan):=Xf Tb f104 1 f104.ins (l,s)
noncomputable def tH (a:List GSpan) (b:List GSpan) (kind:Int):Option (List GSpan):=Xf Tb f68 1 f68.ins (a,b,kind)
noncomputable def cI (a:List GSpan) (b:List GSpan) (kind:Int) (e:List Int) (i:Int) (out:List GSpan):Option (List GSpan):=Xf Tb f68 122 Gt (a,b,kind,e,i,out)
noncomputable def An (l:List GSpan) (s:GSpan):Option (List GSpan):=Xf Tb f39 1 f39.ins (l,s)
noncomputable def n9 (l:List GPosting) (p:GPosting):Option (List GPosting):=Xf Tb f41 1 f41.ins (l,p)
noncomputable def jU (l:List GPosting) (xat:Int) (p:GPosting):Option (List GPosting):=Xf Tb f41 28 K6 (l,xat,p)
noncomputable def jt (l:List GFact):Option (List GPosting):=Xf Tb f13 1 f13.ins l
noncomputable def fj (l:List GFact) (seat:Int) (c:List GFact) (out:List GPosting):Option (List GPosting):=Xf Tb f13 122 FT (l,seat,c,out)
noncomputable def cT (l:List GFact) (seat:Int) (state:Int) (c:List GFact) (out:List GPosting):Option (List GPosting):=Xf Tb f13 7826 Df (l,seat,state,c,out)
noncomputable def bq (l:List GFact) (seat:Int) (state:Int) (i:Int) (c:List GFact) (out:List GPosting) (s:List GSpan):Option (List GPosting):=Xf Tb f13 2003530 vA (l,seat,state,i,c,out,s)
noncomputable def fg (l:List GFact) (seat:Int) (state:Int) (i:Int) (c:List GFact) (out:List GPosting) (s:List GSpan):Option (List GPosting):=Xf Tb f13 4007070 vC (l,seat,state,i,c,out,s)
noncomputable def lX (day:Int):Option Bool:=Xf Tb f109 1 f109.ins day
noncomputable def iu (x:Int) (high:Int):Option Bool:=Xf Tb f149 1 f149.ins (x,high)
noncomputable def tB (r:GRules):Option Bool:=Xf Tb f108 1 f108.ins r
noncomputable def d9 (t28:List Int) (t29:Int) (t30:Int) (r:GRules):Option Bool:=Xf Tb f108 58 FP (t28,t29,t30,r)
noncomputable def oH (t:List GRules):Option Int:=Xf Tb f73 1 f73.ins t
noncomputable def dg (t:List GRules) (t18:List GRules) (t19:Int) (t20:Int):Option Int:=Xf Tb f73 122 Hm (t,t18,t19,t20)
noncomputable def iM (l:List GFact) (t:List GRules):Option (GCompetence_life × Bool):=Xf Tb f48 1 f48.ins (l,t)
noncomputable def gC (s:GSpan) (day:Int):Option Bool:=Xf Tb f75 1 f75.ins (s,day)
noncomputable def ff (x:GCompetence_life) (day:Int) (limit:Int):Option (Int × Bool):=Xf Tb f76 1 f76.ins (x,day,limit)
noncomputable def dR (day:Int) (limit:Int) (t11:List GPosting) (t12:Int) (t13:Int):Option (Int × Bool):=Xf Tb f76 26 Lq (day,limit,t11,t12,t13)
noncomputable def zC (s:List Int) (v:Int):Option Int:=Xf Tb f153 1 f153.ins (s,v)
noncomputable def ee (s:List Int) (v:Int) (t7:Int) (t8:Int):Option Int:=Xf Tb f153 26 GQ (s,v,t7,t8)
noncomputable def k5 (s:List Int) (v:Int):Option Bool:=Xf Tb f116 1 f116.ins (s,v)
noncomputable def cw (x:GCompetence_life) (day:Int) (kinds:List Int):Option (List GFact):=Xf Tb f112 1 f112.ins (x,day,kinds)
noncomputable def bC (day:Int) (kinds:List Int) (t11:List GFact) (t12:Int) (t13:Int) (out:List GFact):Option (List GFact):=Xf Tb f112 58 GR (day,kinds,t11,t12,t13,out)
noncomputable def fV (x:GCompetence_life) (day:Int):Option (Int × Bool):=Xf Tb f77 1 f77.ins (x,day)
noncomputable def bz (ok:Bool) (t15:Int) (t16:Int) (best:GFact) (t14:List GFact):Option (Int × Bool):=Xf Tb f77 58 Ll (ok,t15,t16,best,t14)
noncomputable def tk (s:GSpan) (t1:Int):Option Bool:=Xf Tb f155 1 f155.ins (s,t1)
noncomputable def s5 (s:List GSpan) (f0:Int):Option Int:=Xf Tb f196 1 f196.ins (s,f0)
noncomputable def cy (s:List GSpan) (f0:Int) (t7:Int) (t8:Int):Option Int:=Xf Tb f196 26 GZ (s,f0,t7,t8)
noncomputable def oW (s:List GSpan) (f0:Int):Option Bool:=Xf Tb f154 1 f154.ins (s,f0)
noncomputable def pJ (l:List GSpan) (day:Int):Option Bool:=Xf Tb f119 1 f119.ins (l,day)
noncomputable def dH (l:List GFact) (day:Int):Option (Int × Bool):=Xf Tb f80 1 f80.ins (l,day)
noncomputable def bd (day:Int) (ok:Bool) (t22:List GFact) (t23:Int) (t24:Int) (best:GFact):Option (Int × Bool):=Xf Tb f80 122 G7 (day,ok,t22,t23,t24,best)
noncomputable def gV (l:List GFact):Option (List Int):=Xf Tb f115 1 f115.ins l
noncomputable def bM (t6:List GFact) (t7:Int) (t8:Int) (out:List Int):Option (List Int):=Xf Tb f115 58 GC (t6,t7,t8,out)
noncomputable def cK (x:GCompetence_life) (day:Int) (substantial:Int):Option (Int × Bool):=Xf Tb f78 1 f78.ins (x,day,substantial)
noncomputable def aV (day:Int) (substantial:Int) (total:Int) (t26:Int) (t27:Int) (x:GCompetence_life) (shares_k:List Int) (shares_v:List Int) (t25:List GFact):Option (Int × Bool):=Xf Tb f78 58 Kh (day,substantial,total,t26,t27,x,shares_k,shares_v,t25)
noncomputable def aG (best:Int) (t118:Int) (t119:Int) (shares_k:List Int) (shares_v:List Int) (t117:List Int):Option (Int × Bool):=Xf Tb f78 65530 Am (best,t118,t119,shares_k,shares_v,t117)
noncomputable def zR (x:Int):Option Bool:=Xf Tb f67 1 f67.ins x
noncomputable def CD (x:Int) (y:Int):Option Int:=Xf Tb f37 1 f37.ins (x,y)
noncomputable def gF (a:GFact) (b:GFact):Option Int:=Xf Tb f118 1 f118.ins (a,b)
noncomputable def wC (x:List GFact):Option GFact:=Xf Tb f117 1 f117.ins x
noncomputable def fh (x:List GFact) (i:Int) (t4:GFact) (m:GFact):Option GFact:=Xf Tb f117 122 DZ (x,i,t4,m)
noncomputable def ir (x:GCompetence_life) (day:Int):Option (Int × Bool):=Xf Tb f79 1 f79.ins (x,day)
noncomputable def dV (x:GCompetence_life) (day:Int):Option (Int × Int):=Xf Tb f49 1 f49.ins (x,day)
noncomputable def gm (l:List GFact) (t:List GRules) (day:Int):Option (Int × Int):=Xf Tb f18 1 f18.ins (l,t,day)
noncomputable def pT:Option Bool:=Xf Tb f14 1 f14.ins ()
noncomputable def bT (n:Int):Option ByteArray:=Xf Tb f128 1 f128.ins n
noncomputable def kU (n:Int) (s:ByteArray):Option ByteArray:=Xf Tb f128 28 Hb (n,s)
noncomputable def fN (n:Int):Option ByteArray:=Xf Tb f166 1 f166.ins n
noncomputable def ld (xfrom:ByteArray) (n:List Int) (xat:Int):Option ByteArray:=Xf Tb f129 1 f129.ins (xfrom,n,xat)
noncomputable def fB (n:List Int) (xat:Int) (years:ByteArray) (s:ByteArray):Option ByteArray:=Xf Tb f129 31 G6 (n,xat,years,s)
noncomputable def ja (n:List Int) (xat:Int) (years:ByteArray) (s:ByteArray):Option ByteArray:=Xf Tb f129 127 C4 (n,xat,years,s)
noncomputable def je (n:List Int) (xat:Int) (years:ByteArray) (s:ByteArray):Option ByteArray:=Xf Tb f129 255 Db (n,xat,years,s)
noncomputable def iI (n:List Int) (xat:Int) (s:ByteArray):Option ByteArray:=Xf Tb f129 8191 zK (n,xat,s)
noncomputable def ij (n:List Int) (xat:Int) (s:ByteArray):Option ByteArray:=Xf Tb f129 65535 xI (n,xat,s)
noncomputable def Ay (state:Int) (n:List Int):Option ByteArray:=Xf Tb f82 1 f82.ins (state,n)
noncomputable def mV (state:Int) (n:List Int) (s:ByteArray):Option ByteArray:=Xf Tb f82 31 Kk (state,n,s)
noncomputable def IY (s:ByteArray) (xat:Int):Option Int:=Xf Tb f220 1 f220.ins (s,xat)
noncomputable def gu (s:ByteArray) (xat:Int) (comment:Bool):Option Int:=Xf Tb f220 28 GS (s,xat,comment)
noncomputable def kB (c:Int):Option Bool:=Xf Tb f221 1 f221.ins c
noncomputable def kc (c:Int):Option Bool:=Xf Tb f223 1 f223.ins c
noncomputable def xr (s:ByteArray) (xat:Int) (point:Bool):Option Int:=Xf Tb f222 1 f222.ins (s,xat,point)
noncomputable def ic (s:ByteArray) (xat:Int) (point:Bool) (n:Int):Option Int:=Xf Tb f222 28 Hc (s,xat,point,n)
noncomputable def rV (s:ByteArray):Option (ByteArray × ByteArray × Int × Bool):=Xf Tb f200 1 f200.ins s
noncomputable def jG (s:ByteArray) (dim:Int):Option (ByteArray × ByteArray × Int × Bool):=Xf Tb f200 15 FU (s,dim)
noncomputable def iG (s:ByteArray) (dim:Int) (xat:Int) (i:Int):Option (ByteArray × ByteArray × Int × Bool):=Xf Tb f200 250 DQ (s,dim,xat,i)
noncomputable def kX (dim:Int) (a:ByteArray) (b:ByteArray):Option (ByteArray × ByteArray × Int × Bool):=Xf Tb f200 255 Dy (dim,a,b)
noncomputable def jR (dim:Int) (a:ByteArray) (b:ByteArray) (i:Int):Option (ByteArray × ByteArray × Int × Bool):=Xf Tb f200 2042 Ar (dim,a,b,i)
noncomputable def nU (s:ByteArray):Option (Int × Bool):=Xf Tb f227 1 f227.ins s
noncomputable def lY (s:ByteArray) (n:Int) (i:Int):Option (Int × Bool):=Xf Tb f227 58 GB (s,n,i)
noncomputable def Bk (year:Int):Option Bool:=Xf Tb f254 1 f254.ins year
noncomputable def pX (year:Int) (month:Int):Option Int:=Xf Tb f244 1 f244.ins (year,month)
noncomputable def xA (month:Int):Option Int:=Xf Tb f245 1 f245.ins month
noncomputable def l7 (month:Int) (n:Int) (m:Int):Option Int:=Xf Tb f245 58 F3 (month,n,m)
noncomputable def Dg (year:Int) (month:Int) (dom:Int):Option (Int × Bool):=Xf Tb f228 1 f228.ins (year,month,dom)
noncomputable def m6 (s:ByteArray):Option (Int × Bool):=Xf Tb f202 1 f202.ins s
noncomputable def A0 (s:ByteArray) (xat:Int):Option Int:=Xf Tb f224 1 f224.ins (s,xat)
noncomputable def oA (s:ByteArray) (xat:Int):Option Int:=Xf Tb f224 7 LR (s,xat)
noncomputable def bA (t29:Bool):Option Int:=Xf Tb f224 117 Dz t29
noncomputable def A8 (s:ByteArray) (xat:Int):Option (GToken × Int × Int):=Xf Tb f197 1 f197.ins (s,xat)
noncomputable def ek (s:ByteArray) (xat:Int) (kind:Int) (n:Int) (ok:Bool) (t4:GToken):Option (GToken × Int × Int):=Xf Tb f197 127 Dp (s,xat,kind,n,ok,t4)
noncomputable def DW (s:ByteArray):Option (List GToken × Int × Int):=Xf Tb f156 1 f156.ins s
noncomputable def om (s:ByteArray) (xat:Int) (out:List GToken):Option (List GToken × Int × Int):=Xf Tb f156 62 Hj (s,xat,out)
noncomputable def yp (s:ByteArray):Option (Bool × Int × Int × Int × Int × GPensionref5_reader):=Xf Tb f120 1 f120.ins s
noncomputable def fk (r:GPensionref5_reader) (s:ByteArray):Option Bool:=Xf Tb f161 1 f161.ins (r,s)
noncomputable def aW (s:ByteArray) (r:GPensionref5_reader):Option (Bool × GPensionref5_reader):=Xf Tb f124 1 f124.ins (s,r)
noncomputable def bj (r:GPensionref5_reader):Option GPensionref5_reader:=Xf Tb f157 1 f157.ins r
noncomputable def aD (s:ByteArray) (r:GPensionref5_reader):Option GPensionref5_reader:=Xf Tb f121 1 f121.ins (s,r)
noncomputable def dF (r:GPensionref5_reader) (k:Int):Option Bool:=Xf Tb f158 1 f158.ins (r,k)
noncomputable def vM (s:ByteArray):Option Bool:=Xf Tb f198 1 f198.ins s
noncomputable def gg (s:ByteArray) (i:Int):Option Bool:=Xf Tb f198 26 HD (s,i)
noncomputable def tP (s:ByteArray):Option Bool:=Xf Tb f199 1 f199.ins s
noncomputable def aC (t4:Bool):Option Bool:=Xf Tb f199 53 Hn t4
noncomputable def kC (s:ByteArray):Option Bool:=Xf Tb f159 1 f159.ins s
noncomputable def gT (r:GPensionref5_reader):Option (ByteArray × GPensionref5_reader):=Xf Tb f122 1 f122.ins r
noncomputable def nK (n:Int):Option Int:=Xf Tb f226 1 f226.ins n
noncomputable def tw (x:Int):Option Int:=Xf Tb f255 1 f255.ins x
noncomputable def ow (hi:Int) (lo:Int) (y:Int):Option (Int × Int):=Xf Tb f253 1 f253.ins (hi,lo,y)
noncomputable def qk (hi:Int) (lo:Int) (y:Int):Option (Int × Int):=Xf Tb f253 7 MC (hi,lo,y)
noncomputable def oU (hi:Int) (lo:Int) (y:Int):Option (Int × Int):=Xf Tb f253 15 Hz (hi,lo,y)
noncomputable def ua (y:Int) (s:Int) (yn1:Int) (yn0:Int) (un32:Int) (un1:Int) (un0:Int) (q1:Int) (rhat:Int):Option (Int × Int):=Xf Tb f253 131068 Cz (y,s,yn1,yn0,un32,un1,un0,q1,rhat)
noncomputable def mh (w:GPensionref1_wide) (d:Int):Option (GPensionref1_wide × Int):=Xf Tb f242 1 f242.ins (w,d)
noncomputable def Dd (a:Int) (b:Int):Option Int:=Xf Tb f243 1 f243.ins (a,b)
noncomputable def nR (a:Int) (b:Int):Option Int:=Xf Tb f243 12 Gs (a,b)
noncomputable def vo (negative:Bool) (n:GPensionref1_wide) (d:Int):Option (GFraction × Int):=Xf Tb f225 1 f225.ins (negative,n,d)
noncomputable def mr (num:Int) (den:Int):Option (GFraction × Int):=Xf Tb f201 1 f201.ins (num,den)
noncomputable def lF (text:ByteArray):Option (GFraction × Int × Bool):=Xf Tb f160 1 f160.ins text
noncomputable def gE (a:ByteArray) (b:ByteArray) (dim:Int) (num:Int) (den:Int) (i:Int) (t2:GFraction):Option (GFraction × Int × Bool):=Xf Tb f160 250 Dt (a,b,dim,num,den,i,t2)
noncomputable def dQ (least:Int) (most:Int) (r:GPensionref5_reader):Option (Int × GPensionref5_reader):=Xf Tb f123 1 f123.ins (least,most,r)
noncomputable def Fz (s:ByteArray):Option Int:=Xf Tb f162 1 f162.ins s
noncomputable def uG (s:ByteArray):Option Int:=Xf Tb f203 1 f203.ins s
noncomputable def lg (s:ByteArray):Option Int:=Xf Tb f204 1 f204.ins s
noncomputable def lO (s:ByteArray):Option Int:=Xf Tb f205 1 f205.ins s
noncomputable def gN (what:Int) (r:GPensionref5_reader):Option (Int × GPensionref5_reader):=Xf Tb f163 1 f163.ins (what,r)
noncomputable def ur (op:Int):Option Int:=Xf Tb f250 1 f250.ins op
noncomputable def hZ (op:Int) (r:GPensionref5_reader):Option (GExpr × GPensionref5_reader):=Xf Tb f246 1 f246.ins (op,r)
noncomputable def k9 (r:GPensionref5_reader):Option (GExpr × GPensionref5_reader):=Xf Tb f229 1 f229.ins r
noncomputable def w9 (op:Int):Option Int:=Xf Tb f247 1 f247.ins op
noncomputable def db (t3:Int) (t12:Bool):Option Int:=Xf Tb f247 13823 xc (t3,t12)
noncomputable def vw (op:Int):Option ByteArray:=Xf Tb f248 1 f248.ins op
noncomputable def lu (r:GPensionref5_reader) (n:Int):Option Int:=Xf Tb f230 1 f230.ins (r,n)
noncomputable def dX (r:GPensionref5_reader) (n:Int) (op:Int):Option Int:=Xf Tb f230 26 Ho (r,n,op)
noncomputable def aI (n:Int) (r:GPensionref5_reader):Option (GExpr × GPensionref5_reader):=Xf Tb f206 1 f206.ins (n,r)
noncomputable def gk (n:Int) (r:GPensionref5_reader) (Op:Int) (Value:GFraction) (Dim:Int) (Name:ByteArray) (Op2:Int) (Value2:GFraction) (Dim2:Int) (Name2:ByteArray) (Args:List GExpr):Option (GExpr × GPensionref5_reader):=Xf Tb f206 124 DN (n,r,Op,Value,Dim,Name,Op2,Value2,Dim2,Name2,Args)
noncomputable def lc (r:GPensionref5_reader) (From:Int) (Rounding:GRounding) (Credits:List GCredit) (Series:List GIndex) (Lets:List GLet) (Grants:List GGrant) (Reduces:List GReduce):Option (GPensionref5_reader × Int × GRounding × List GCredit × List GIndex × List GLet × List GGrant × List GReduce):=Xf Tb iF 1 iF.ins (r,From,Rounding,Credits,Series,Lets,Grants,Reduces)
noncomputable def ce (r:GPensionref5_reader) (From:Int) (Rounding:GRounding) (Credits:List GCredit) (Series:List GIndex) (Lets:List GLet) (Grants:List GGrant) (Reduces:List GReduce):Option (GPensionref5_reader × Int × GRounding × List GCredit × List GIndex × List GLet × List GGrant × List GReduce):=Xf Tb iF 3 CP (r,From,Rounding,Credits,Series,Lets,Grants,Reduces)
noncomputable def fG (r:GPensionref5_reader) (From:Int) (Rounding:GRounding) (c:GCredit) (Credits:List GCredit) (Series:List GIndex) (Lets:List GLet) (Grants:List GGrant) (Reduces:List GReduce):Option (GPensionref5_reader × Int × GRounding × List GCredit × List GIndex × List GLet × List GGrant × List GReduce):=Xf Tb iF 75 Au (r,From,Rounding,c,Credits,Series,Lets,Grants,Reduces)
noncomputable def dM (r:GPensionref5_reader) (From:Int) (Rounding:GRounding) (x:GIndex) (Credits:List GCredit) (Series:List GIndex) (Lets:List GLet) (Grants:List GGrant) (Reduces:List GReduce):Option (GPensionref5_reader × Int × GRounding × List GCredit × List GIndex × List GLet × List GGrant × List GReduce):=Xf Tb iF 315 xp (r,From,Rounding,x,Credits,Series,Lets,Grants,Reduces)
noncomputable def e9 (r:GPensionref5_reader) (From:Int) (Rounding:GRounding) (x:GIndex) (Credits:List GCredit) (Series:List GIndex) (Lets:List GLet) (Grants:List GGrant) (Reduces:List GReduce):Option (GPensionref5_reader × Int × GRounding × List GCredit × List GIndex × List GLet × List GGrant × List GReduce):=Xf Tb iF 631 xz (r,From,Rounding,x,Credits,Series,Lets,Grants,Reduces)
noncomputable def im (r:GPensionref5_reader):Option (GVersion × GPensionref5_reader):=Xf Tb f125 1 f125.ins r
noncomputable def fe (r:GPensionref5_reader) (From:Int) (Rounding:GRounding) (From2:Int) (Rounding2:GRounding):Option (GVersion × GPensionref5_reader):=Xf Tb f125 31 HB (r,From,Rounding,From2,Rounding2)
noncomputable def ew (r:GPensionref5_reader) (From:Int) (Rounding:GRounding) (From2:Int) (Rounding2:GRounding) (Credits:List GCredit) (Series:List GIndex) (Lets:List GLet) (Grants:List GGrant) (Reduces:List GReduce):Option (GVersion × GPensionref5_reader):=Xf Tb f125 4092 Al (r,From,Rounding,From2,Rounding2,Credits,Series,Lets,Grants,Reduces)
noncomputable def jm (r:GPensionref5_reader):Option Int:=Xf Tb f126 1 f126.ins r
noncomputable def qy (r:GRounding):Option Bool:=Xf Tb f207 1 f207.ins r
noncomputable def mP (n:Int) (of:Int):Option ByteArray:=Xf Tb f208 1 f208.ins (n,of)
noncomputable def cx (n:Int) (of:Int) (i:Int) (l:List ByteArray):Option ByteArray:=Xf Tb f208 58 HG (n,of,i,l)
noncomputable def iE (f:GFraction):Option Bool:=Xf Tb f231 1 f231.ins f
noncomputable def mR (n:Int) (least:Int):Option ByteArray:=Xf Tb f249 1 f249.ins (n,least)
noncomputable def k6 (n:Int) (least:Int) (s:ByteArray):Option ByteArray:=Xf Tb f249 28 Gb (n,least,s)
noncomputable def kI (a:GFraction):Option ByteArray:=Xf Tb f232 1 f232.ins a
noncomputable def io (s:ByteArray) (a:GFraction):Option ByteArray:=Xf Tb f232 31 Gc (s,a)
noncomputable def iJ (value:GFraction) (dim:Int):Option (ByteArray × Bool):=Xf Tb f209 1 f209.ins (value,dim)
noncomputable def dG (dim:Int) (s:ByteArray) (rest:Int) (k:Int):Option (ByteArray × Bool):=Xf Tb f209 2042 zu (dim,s,rest,k)
noncomputable def rQ (e:GExpr):Option Int:=Xf Tb f233 1 f233.ins e
noncomputable def mj (n:Int) (i:Int) (Op:Int) (Value:GFraction) (Dim:Int) (Name:ByteArray) (Args:List GExpr):Option Int:=Xf Tb f233 58 Gx (n,i,Op,Value,Dim,Name,Args)
noncomputable def uB (e:GExpr):Option Int:=Xf Tb f234 1 f234.ins e
noncomputable def mU (n:Int) (i:Int) (Op:Int) (Value:GFraction) (Dim:Int) (Name:ByteArray) (Args:List GExpr):Option Int:=Xf Tb f234 58 GT (n,i,Op,Value,Dim,Name,Args)
noncomputable def pN (e:GExpr):Option Bool:=Xf Tb f235 1 f235.ins e
noncomputable def j5 (zero:Bool) (i:Int) (Op:Int) (Value:GFraction) (Dim:Int) (Name:ByteArray) (Args:List GExpr):Option Bool:=Xf Tb f235 250 C1 (zero,i,Op,Value,Dim,Name,Args)
noncomputable def gR (e:GExpr):Option Bool:=Xf Tb f210 1 f210.ins e
noncomputable def mq (v:GVersion):Option Bool:=Xf Tb f165 1 f165.ins v
noncomputable def fY (i:Int) (From:Int) (Rounding:GRounding) (Credits:List GCredit) (Series:List GIndex) (Lets:List GLet) (Grants:List GGrant) (Reduces:List GReduce):Option Bool:=Xf Tb f165 58 Gq (i,From,Rounding,Credits,Series,Lets,Grants,Reduces)
noncomputable def fI (i:Int) (From:Int) (Rounding:GRounding) (Credits:List GCredit) (Series:List GIndex) (Lets:List GLet) (Grants:List GGrant) (Reduces:List GReduce):Option Bool:=Xf Tb f165 122 CL (i,From,Rounding,Credits,Series,Lets,Grants,Reduces)
noncomputable def fC (i:Int) (From:Int) (Rounding:GRounding) (Credits:List GCredit) (Series:List GIndex) (Lets:List GLet) (Grants:List GGrant) (Reduces:List GReduce):Option Bool:=Xf Tb f165 250 CJ (i,From,Rounding,Credits,Series,Lets,Grants,Reduces)
noncomputable def fD (i:Int) (From:Int) (Rounding:GRounding) (Credits:List GCredit) (Series:List GIndex) (Lets:List GLet) (Grants:List GGrant) (Reduces:List GReduce):Option Bool:=Xf Tb f165 506 Da (i,From,Rounding,Credits,Series,Lets,Grants,Reduces)
noncomputable def e8 (i:Int) (From:Int) (Rounding:GRounding) (Credits:List GCredit) (Series:List GIndex) (Lets:List GLet) (Grants:List GGrant) (Reduces:List GReduce):Option Bool:=Xf Tb f165 1018 zZ (i,From,Rounding,Credits,Series,Lets,Grants,Reduces)
noncomputable def nT (x:GStatute):Option Bool:=Xf Tb f127 1 f127.ins x
noncomputable def lW (i:Int) (Name:ByteArray) (Currency:Int) (Versions:List GVersion):Option Bool:=Xf Tb f127 58 G1 (i,Name,Currency,Versions)
noncomputable def yi (s:ByteArray):Option (GStatute × Int × Int):=Xf Tb f81 1 f81.ins s
noncomputable def fu (first:Bool) (Name:ByteArray) (Currency:Int) (r:GPensionref5_reader) (Name2:ByteArray) (Currency2:Int) (Versions:List GVersion):Option (GStatute × Int × Int):=Xf Tb f81 4090 CX (first,Name,Currency,r,Name2,Currency2,Versions)
noncomputable def Aw (n:List Int):Option (List GState × List GRules × List GRate):=Xf Tb f50 1 f50.ins n
noncomputable def ky (n:List Int) (s:Int) (States:List GState) (Rates:List GRate):Option (List GState × List GRules × List GRate):=Xf Tb f50 58 KR (n,s,States,Rates)
noncomputable def qh (n:List Int) (limit:Int):Option (List GRules):=Xf Tb f19 1 f19.ins (n,limit)
noncomputable def j7 (limit:Int) (i:Int) (t:List GRules):Option (List GRules):=Xf Tb f19 234 Hw (limit,i,t)
noncomputable def tZ (day:Int) (dense:Bool):Option Int:=Xf Tb f20 1 f20.ins (day,dense)
noncomputable def qW (t:List GRules) (day:Int):Option (GRules × Bool):=Xf Tb f51 1 f51.ins (t,day)
noncomputable def jh (t:List GRules) (day:Int) (i:Int) (t4:GRules):Option (GRules × Bool):=Xf Tb f51 26 L8 (t,day,i,t4)
noncomputable def vD (t:List GRules):Option Int:=Xf Tb f52 1 f52.ins t
noncomputable def cB (t:List GRules) (i:Int):Option Int:=Xf Tb f52 122 HH (t,i)
noncomputable def cR (t:List GRules) (i:Int) (k:Int) (r:GRules):Option Int:=Xf Tb f52 31310 Bg (t,i,k,r)
noncomputable def gp (s:GSpan) (day:Int):Option Bool:=Xf Tb f53 1 f53.ins (s,day)
noncomputable def s9 (c:List GFact) (day:Int):Option (List Int):=Xf Tb f130 1 f130.ins (c,day)
noncomputable def cd (c:List GFact) (day:Int) (i:Int) (t4:List Int) (out:List Int):Option (List Int):=Xf Tb f130 58 F5 (c,day,i,t4,out)
noncomputable def fZ (l:List GFact) (day:Int):Option (Int × Bool):=Xf Tb f22 1 f22.ins (l,day)
noncomputable def bn (l:List GFact) (day:Int) (xat:Int) (i:Int) (c:List GFact):Option (Int × Bool):=Xf Tb f22 122 GV (l,day,xat,i,c)
noncomputable def qi (c:List GFact) (day:Int):Option (List Int):=Xf Tb f131 1 f131.ins (c,day)
noncomputable def eU (c:List GFact) (day:Int) (out:List Int) (i:Int):Option (List Int):=Xf Tb f131 58 GW (c,day,out,i)
noncomputable def l5 (l:List GFact) (c:List GFact) (r:GRules) (day:Int):Option (Int × Bool):=Xf Tb f84 1 f84.ins (l,c,r,day)
noncomputable def bI (l:List GFact) (c:List GFact) (day:Int) (sum:Int) (n:Int) (best:Int) (i:Int) (r:GRules) (s:List Int):Option (Int × Bool):=Xf Tb f84 122 Hx (l,c,day,sum,n,best,i,r,s)
noncomputable def uo (l:List GFact) (c:List GFact) (p:List GPosting) (r:GRules) (day:Int):Option (Int × Int):=Xf Tb f54 1 f54.ins (l,c,p,r,day)
noncomputable def dI (l:List GFact) (c:List GFact) (p:List GPosting) (day:Int) (best:Int) (i:Int) (r:GRules):Option (Int × Int):=Xf Tb f54 58 J4 (l,c,p,day,best,i,r)
noncomputable def cN (l:List GFact) (c:List GFact) (day:Int) (best:Int) (i:Int) (r:GRules):Option (Int × Int):=Xf Tb f54 250 F6 (l,c,day,best,i,r)
noncomputable def aY (l:List GFact) (c:List GFact) (day:Int) (best:Int) (i:Int):Option (Int × Int):=Xf Tb f54 2042 DM (l,c,day,best,i)
noncomputable def gI (x:GCompetence_life):Option (List Int):=Xf Tb f58 1 f58.ins x
noncomputable def bF (t18:List GFact) (t19:Int) (t20:Int) (x:GCompetence_life) (out:List Int):Option (List Int):=Xf Tb f58 58 Ko (t18,t19,t20,x,out)
noncomputable def bu (t35:List GRules) (t36:Int) (t37:Int) (x:GCompetence_life) (out:List Int):Option (List Int):=Xf Tb f58 122 Gv (t35,t36,t37,x,out)
noncomputable def bG (t35:List GRules) (t36:Int) (t37:Int) (t47:List GPosting) (t48:Int) (t49:Int) (x:GCompetence_life) (out:List Int) (r:GRules):Option (List Int):=Xf Tb f58 62670 Aa (t35,t36,t37,t47,t48,t49,x,out,r)
noncomputable def md (l:List GFact) (t:List GRules):Option (List GSegment):=Xf Tb f28 1 f28.ins (l,t)
noncomputable def dm (i:Int) (x:GCompetence_life) (out:List GSegment) (days:List Int):Option (List GSegment):=Xf Tb f28 506 GH (i,x,out,days)
noncomputable def zU (l:List GFact) (t:List GRules):Option (List GSegment):=Xf Tb f23 1 f23.ins (l,t)
noncomputable def me (l:List GFact) (t:List GRules) (e:List Int) (i:Int) (c:List GFact) (p:List GPosting) (life:GSpan):Option (List GSegment):=Xf Tb f23 250 Gh (l,t,e,i,c,p,life)
noncomputable def jH (l:List GFact) (t:List GRules) (e:List Int) (i:Int) (c:List GFact) (p:List GPosting) (life:GSpan):Option (List GSegment):=Xf Tb f23 506 Gf (l,t,e,i,c,p,life)
noncomputable def kV (l:List GFact) (t:List GRules) (e:List Int) (k:Int) (c:List GFact) (p:List GPosting) (life:GSpan):Option (List GSegment):=Xf Tb f23 1018 DY (l,t,e,k,c,p,life)
noncomputable def bZ (l:List GFact) (t:List GRules) (e:List Int) (i:Int) (c:List GFact) (p:List GPosting) (life:GSpan) (out:List GSegment):Option (List GSegment):=Xf Tb f23 4090 DK (l,t,e,i,c,p,life,out)
noncomputable def jT (l:List GFact) (t:List GRules) (e:List Int) (i:Int) (k:Int) (c:List GFact) (p:List GPosting) (life:GSpan):Option (List GSegment):=Xf Tb f23 64806 AT (l,t,e,i,k,c,p,life)
noncomputable def lB (a:List GSegment) (b:List GSegment):Option Bool:=Xf Tb f27 1 f27.ins (a,b)
noncomputable def cC (a:List GSegment) (b:List GSegment) (i:Int):Option Bool:=Xf Tb f27 58 KG (a,b,i)
noncomputable def rF (l:List GPensionhand_Fact) (n:List Int) (dense:Bool) (limit:Int):Option Bool:=Xf Tb f8 1 f8.ins (l,n,dense,limit)
noncomputable def yR (l:List GPensionhand_Fact) (n:List Int) (dense:Bool) (limit:Int) (day:Int):Option Bool:=Xf Tb f9 1 f9.ins (l,n,dense,limit,day)
noncomputable def dj (day:Int) (s:Int) (r:Int) (found:Int) (i:Int) (segs:List GSegment):Option Bool:=Xf Tb f9 2042 G5 (day,s,r,found,i,segs)
end Go.Ax
