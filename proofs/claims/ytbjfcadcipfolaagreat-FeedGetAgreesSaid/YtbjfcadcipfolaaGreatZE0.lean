import Derived.Test.YtbjfcadcipfolaaGreatZHd
import Derived.Test.YtbjfcadcipfolaaGreatRows
set_option linter.all false
set_option maxRecDepth 100000
set_option maxHeartbeats 0
namespace Go.Ax
open Go.Proofs Go.Proofs.YtbjfcadcipfolaaGreat
/- pension/pensionplain.Mod -/
noncomputable def f16:FI:={ fid:=16,fn:=Tryz.f16,c:=af Tryz.f16,ins:={ sl:=[(0, .t (.i .i64)),(1, .t (.i .i64))] },out:=.new (.t (.i .i64)),cuts:=[] }
abbrev J2:Tm:={ sl:=[(0, .t (.ls (.i .u8))),(3, .t (.i .i64)),(4, .t (.i .i64))],ob:=[] }
noncomputable def f50:FI:={ fid:=50,fn:=Tryz.f50,c:=af Tryz.f50,ins:={ sl:=[(0, .t (.ls (.i .u8)))] },out:=.new (.t (.i .i64)),cuts:=[(58,J2)] }
noncomputable def f41:FI:={ fid:=41,fn:=Tryz.f41,c:=af Tryz.f41,ins:={ sl:=[(0, .t (.ls (.i .u8)))] },out:=.new (.t (.i .u32)),cuts:=[] }
noncomputable def f115:FI:={ fid:=115,fn:=Tryz.f115,c:=af Tryz.f115,ins:={ sl:=[(0, .t (.i .i64))] },out:=.new (.t (.i .i64)),cuts:=[] }
noncomputable def f116:FI:={ fid:=116,fn:=Tryz.f116,c:=af Tryz.f116,ins:={ sl:=[(0, .t (.i .i64))] },out:=.new (.t (.s)),cuts:=[] }
abbrev Fx:Tm:={ sl:=[(1, .k (.ptr 0 13 0 0)),(2, .k (.ptr 1 14 0 0)),(3, .k (.ptr 2 14 0 0)),(4, .t (.i .i64)),(5, .t (.i .i64))],ob:=[.box [.t (.st .GPensionhand_Fact)], .box [.t (.st .GFact)], .box [.t (.st .GFact)]] }
abbrev CH:Tm:={ sl:=[(1, .k (.ptr 0 13 0 0)),(2, .k (.ptr 1 14 0 0)),(3, .k (.ptr 2 14 0 0)),(4, .t (.i .i64)),(5, .t (.i .i64)),(6, .t (.s)),(7, .t (.i .i64))],ob:=[.box [.t (.st .GPensionhand_Fact)], .box [.t (.st .GFact)], .box [.t (.st .GFact)]] }
abbrev zI:Tm:={ sl:=[(1, .k (.ptr 0 13 0 0)),(2, .k (.ptr 1 14 0 0)),(3, .k (.ptr 2 14 0 0)),(4, .t (.i .i64)),(5, .t (.i .i64)),(6, .t (.s)),(7, .t (.i .i64))],ob:=[.box [.t (.st .GPensionhand_Fact)], .box [.t (.st .GFact)], .box [.t (.st .GFact)]] }
noncomputable def f80:FI:={ fid:=80,fn:=Tryz.f80,c:=af Tryz.f80,ins:={ sl:=[(0, .t (.st .GPensionhand_Fact))] },out:=.new (.t (.st .GFact)),cuts:=[(127,Fx),(2042,CH),(16339,zI)] }
abbrev EX:Tm:={ sl:=[(1, .t (.i .u8)),(5, .t (.s)),(6, .t (.i .i64))],ob:=[] }
noncomputable def f172:FI:={ fid:=172,fn:=Tryz.f172,c:=af Tryz.f172,ins:={ sl:=[(0, .t (.i .i64)),(1, .t (.i .u8))] },out:=.new (.t (.b)),cuts:=[(58,EX)] }
noncomputable def f134:FI:={ fid:=134,fn:=Tryz.f134,c:=af Tryz.f134,ins:={ sl:=[(0, .t (.i .i64)),(1, .t (.i .u8)),(2, .t (.i .i64)),(3, .t (.i .i64)),(4, .t (.i .i64))] },out:=.new (.t (.b)),cuts:=[] }
noncomputable def f105:FI:={ fid:=105,fn:=Tryz.f105,c:=af Tryz.f105,ins:={ sl:=[(0, .t (.st .GFact))] },out:=.new (.t (.b)),cuts:=[] }
abbrev Qt:Tm:={ sl:=[(0, .k (.row 0 1)),(1, .t (.i .i64)),(7, .t (.i .i64))],ob:=[.row 5 (.i .u8)] }
noncomputable def f146:FI:={ fid:=146,fn:=Tryz.f146,c:=af Tryz.f146,ins:={ sl:=[(0, .k (.c .nil)),(1, .t (.i .i64)),(2, .t (.i .i64))],ob:=[] },out:=.gen ({ sl:=[(2000000, .tp [.k (.row 0 1)])],ob:=[.row 5 (.i .u8)] }),cuts:=[(26,Qt)] }
abbrev zN:Tm:={ sl:=[(0, .k (.row 0 1)),(1, .t (.i .i64)),(7, .t (.i .i64))],ob:=[.row 5 (.i .u8)] }
noncomputable def qH:FI:={ fid:=146,fn:=Tryz.f146,c:=af Tryz.f146,ins:={ sl:=[(0, .k (.row 0 1)),(1, .t (.i .i64)),(2, .t (.i .i64))],ob:=[.row 5 (.i .u8)] },out:=.gen ({ sl:=[(2000000, .tp [.k (.row 0 1)])],ob:=[.row 5 (.i .u8)] }),cuts:=[(26,zN)] }
abbrev ED:Tm:={ sl:=[(1, .k (.ptr 0 14 0 0)),(3, .t (.i .i64))],ob:=[.box [.t (.st .GFact)]] }
abbrev zH:Tm:={ sl:=[(1, .k (.ptr 0 14 0 0)),(4, .k (.row 1 1)),(5, .t (.s)),(6, .t (.i .i64))],ob:=[.box [.t (.st .GFact)], .row 5 (.i .u8)] }
abbrev z8:Tm:={ sl:=[(1, .k (.ptr 0 14 0 0)),(4, .k (.row 1 1)),(5, .t (.s)),(6, .t (.i .i64))],ob:=[.box [.t (.st .GFact)], .row 5 (.i .u8)] }
noncomputable def f117:FI:={ fid:=117,fn:=Tryz.f117,c:=af Tryz.f117,ins:={ sl:=[(0, .t (.st .GFact))] },out:=.own true 5 (.i .u8),cuts:=[(31,ED),(1018,zH),(8147,z8)] }
noncomputable def f81:FI:={ fid:=81,fn:=Tryz.f81,c:=af Tryz.f81,ins:={ sl:=[(0, .t (.st .GFact))] },out:=.new (.tp [.t (.ls (.i .u8)), .t (.b)]),cuts:=[] }
noncomputable def f118:FI:={ fid:=118,fn:=Tryz.f118,c:=af Tryz.f118,ins:={ sl:=[(0, .t (.i .i64)),(1, .t (.i .i64)),(2, .t (.i .i64))] },out:=.new (.t (.b)),cuts:=[] }
noncomputable def f119:FI:={ fid:=119,fn:=Tryz.f119,c:=af Tryz.f119,ins:={ sl:=[(0, .t (.i .i64))] },out:=.new (.t (.b)),cuts:=[] }
abbrev Io:Tm:={ sl:=[(0, .t (.i .i64)),(5, .k (.row 0 1)),(6, .t (.i .i64))],ob:=[.row 5 (.i .u8)] }
noncomputable def f89:FI:={ fid:=89,fn:=Tryz.f89,c:=af Tryz.f89,ins:={ sl:=[(0, .t (.i .i64)),(1, .t (.i .i64))] },out:=.own true 5 (.i .u8),cuts:=[(58,Io)] }
abbrev Ic:Tm:={ sl:=[(0, .t (.ls (.ls (.i .u8)))),(3, .k (.row 0 1)),(4, .t (.i .i64))],ob:=[.row 5 (.i .u8)] }
noncomputable def f88:FI:={ fid:=88,fn:=Tryz.f88,c:=af Tryz.f88,ins:={ sl:=[(0, .t (.ls (.ls (.i .u8))))] },out:=.own true 5 (.i .u8),cuts:=[(58,Ic)] }
noncomputable def f82:FI:={ fid:=82,fn:=Tryz.f82,c:=af Tryz.f82,ins:={ sl:=[(0, .t (.st .GClaim))] },out:=.new (.tp [.t (.ls (.i .u8)), .t (.b)]),cuts:=[] }
noncomputable def f84:FI:={ fid:=84,fn:=Tryz.f84,c:=af Tryz.f84,ins:={ sl:=[(0, .t (.i .i64))] },out:=.new (.t (.i .i64)),cuts:=[] }
noncomputable def f120:FI:={ fid:=120,fn:=Tryz.f120,c:=af Tryz.f120,ins:={ sl:=[(0, .t (.i .i64))] },out:=.new (.t (.b)),cuts:=[] }
noncomputable def f83:FI:={ fid:=83,fn:=Tryz.f83,c:=af Tryz.f83,ins:={ sl:=[(0, .t (.st .GRequest))] },out:=.new (.tp [.t (.ls (.i .u8)), .t (.b)]),cuts:=[] }
noncomputable def f85:FI:={ fid:=85,fn:=Tryz.f85,c:=af Tryz.f85,ins:={ sl:=[(0, .t (.st .GRemittance))] },out:=.new (.tp [.t (.ls (.i .u8)), .t (.b)]),cuts:=[] }
noncomputable def f86:FI:={ fid:=86,fn:=Tryz.f86,c:=af Tryz.f86,ins:={ sl:=[(0, .t (.st .GNotice))] },out:=.new (.tp [.t (.ls (.i .u8)), .t (.b)]),cuts:=[] }
noncomputable def f42:FI:={ fid:=42,fn:=Tryz.f42,c:=af Tryz.f42,ins:={ sl:=[(0, .t (.st .GPensionlaw31_Raw)),(1, .t (.i .i64)),(2, .t (.i .i64))] },out:=.data (.t (.ls (.i .u8))),cuts:=[] }
abbrev EV:Tm:={ sl:=[(0, .t (.ls (.i .u8))),(3, .t (.i .i64)),(4, .t (.i .i64))],ob:=[] }
noncomputable def f133:FI:={ fid:=133,fn:=Tryz.f133,c:=af Tryz.f133,ins:={ sl:=[(0, .t (.ls (.i .u8)))] },out:=.new (.t (.i .i64)),cuts:=[(58,EV)] }
abbrev Cp:Tm:={ sl:=[(0, .t (.ls (.i .u8))),(2, .k (.ptr 0 14 0 0)),(5, .k (.ptr 1 14 0 0)),(6, .t (.i .i64)),(7, .t (.s)),(8, .t (.i .i64))],ob:=[.box [.t (.st .GFact)], .box [.t (.st .GFact)]] }
abbrev yw:Tm:={ sl:=[(0, .t (.ls (.i .u8))),(2, .k (.ptr 0 14 0 0)),(5, .k (.ptr 1 14 0 0)),(6, .t (.i .i64)),(7, .t (.s)),(8, .t (.i .i64)),(9, .t (.i .i64))],ob:=[.box [.t (.st .GFact)], .box [.t (.st .GFact)]] }
abbrev vT:Tm:={ sl:=[(0, .t (.ls (.i .u8))),(2, .k (.ptr 0 14 0 0)),(5, .k (.ptr 1 14 0 0)),(6, .t (.i .i64)),(7, .t (.s)),(8, .t (.i .i64)),(9, .t (.i .i64))],ob:=[.box [.t (.st .GFact)], .box [.t (.st .GFact)]] }
noncomputable def f104:FI:={ fid:=104,fn:=Tryz.f104,c:=af Tryz.f104,ins:={ sl:=[(0, .t (.ls (.i .u8)))] },out:=.new (.tp [.t (.st .GFact), .t (.i .i64), .t (.b)]),cuts:=[(506,Cp),(32403,yw),(259231,vT)] }
noncomputable def f70:FI:={ fid:=70,fn:=Tryz.f70,c:=af Tryz.f70,ins:={ sl:=[(0, .t (.ls (.i .u8)))] },out:=.new (.tp [.t (.st .GFact), .t (.b)]),cuts:=[] }
noncomputable def f76:FI:={ fid:=76,fn:=Tryz.f76,c:=af Tryz.f76,ins:={ sl:=[(0, .t (.ls (.i .u8)))] },out:=.new (.tp [.t (.st .GClaim), .t (.b)]),cuts:=[] }
noncomputable def f147:FI:={ fid:=147,fn:=Tryz.f147,c:=af Tryz.f147,ins:={ sl:=[(0, .t (.ls (.i .u8)))] },out:=.new (.tp [.t (.st .GRequest), .t (.b)]),cuts:=[] }
noncomputable def f148:FI:={ fid:=148,fn:=Tryz.f148,c:=af Tryz.f148,ins:={ sl:=[(0, .t (.ls (.i .u8)))] },out:=.new (.tp [.t (.st .GRemittance), .t (.b)]),cuts:=[] }
noncomputable def f149:FI:={ fid:=149,fn:=Tryz.f149,c:=af Tryz.f149,ins:={ sl:=[(0, .t (.ls (.i .u8)))] },out:=.new (.tp [.t (.st .GNotice), .t (.b)]),cuts:=[] }
noncomputable def f121:FI:={ fid:=121,fn:=Tryz.f121,c:=af Tryz.f121,ins:={ sl:=[(0, .t (.i .i64)),(1, .t (.i .i64)),(2, .t (.ls (.i .u8)))] },out:=.new (.t (.b)),cuts:=[] }
noncomputable def f87:FI:={ fid:=87,fn:=Tryz.f87,c:=af Tryz.f87,ins:={ sl:=[(0, .t (.st .GDocument))] },out:=.new (.t (.b)),cuts:=[] }
abbrev Kj:Tm:={ sl:=[(0, .t (.ls (.i .u8))),(3, .t (.i .u32)),(4, .t (.i .i64))],ob:=[] }
abbrev BT:Tm:={ sl:=[(0, .t (.ls (.i .u8))),(3, .t (.i .u32)),(4, .t (.i .i64)),(5, .t (.i .i64))],ob:=[] }
noncomputable def f90:FI:={ fid:=90,fn:=Tryz.f90,c:=af Tryz.f90,ins:={ sl:=[(0, .t (.ls (.i .u8)))] },out:=.new (.t (.i .u32)),cuts:=[(58,Kj),(7462,BT)] }
noncomputable def f43:FI:={ fid:=43,fn:=Tryz.f43,c:=af Tryz.f43,ins:={ sl:=[(0, .t (.st .GDocument))] },out:=.new (.tp [.t (.ls (.i .u8)), .t (.i .i64)]),cuts:=[] }
abbrev ER:Tm:={ sl:=[(0, .t (.ls (.st .GPensionlaw31_Raw))),(3, .k (.row 0 1)),(4, .k (.ptr 1 1 0 0)),(5, .k (.ptr 2 1 0 0)),(6, .t (.i .i64))],ob:=[.row 32 (.ls (.i .u8)), .row 53 (.i .i64), .row 89 (.ls (.i .u8))] }
abbrev zM:Tm:={ sl:=[(0, .t (.ls (.st .GPensionlaw31_Raw))),(3, .k (.row 0 1)),(4, .k (.ptr 1 1 0 0)),(5, .k (.ptr 2 1 0 0)),(6, .t (.i .i64)),(7, .t (.i .i64)),(8, .k (.ptr 3 5 0 0))],ob:=[.row 32 (.ls (.i .u8)), .row 53 (.i .i64), .row 89 (.ls (.i .u8)), .box [.t (.st .GDocument)]] }
noncomputable def f21:FI:={ fid:=21,fn:=Tryz.f21,c:=af Tryz.f21,ins:={ sl:=[(0, .t (.ls (.st .GPensionlaw31_Raw)))] },out:=.own false 32 (.ls (.i .u8)),cuts:=[(250,ER),(32039,zM)] }
abbrev Jw:Tm:={ sl:=[(0, .t (.ls (.st .GPensionlaw31_Raw))),(3, .k (.row 0 1)),(4, .t (.i .i64))],ob:=[.row 32 (.ls (.i .u8))] }
abbrev B4:Tm:={ sl:=[(0, .t (.ls (.st .GPensionlaw31_Raw))),(3, .k (.row 0 1)),(4, .t (.i .i64)),(5, .t (.i .i64)),(6, .k (.ptr 1 5 0 0))],ob:=[.row 32 (.ls (.i .u8)), .box [.t (.st .GDocument)]] }
noncomputable def f15:FI:={ fid:=15,fn:=Tryz.f15,c:=af Tryz.f15,ins:={ sl:=[(0, .t (.ls (.st .GPensionlaw31_Raw)))] },out:=.data (.t (.ls (.ls (.i .u8)))),cuts:=[(58,Jw),(7463,B4)] }
abbrev EL:Tm:={ sl:=[(1, .t (.ls (.i .i64))),(5, .k (.row 0 1)),(6, .k (.row 1 1)),(7, .t (.i .i64))],ob:=[.row 32 (.ls (.i .u8)), .row 32 (.ls (.i .u8))] }
abbrev Cn:Tm:={ sl:=[(1, .t (.ls (.i .i64))),(5, .k (.row 0 1)),(6, .k (.row 1 1)),(7, .t (.i .i64)),(8, .t (.i .i64))],ob:=[.row 32 (.ls (.i .u8)), .row 32 (.ls (.i .u8))] }
abbrev y3:Tm:={ sl:=[(1, .t (.ls (.i .i64))),(5, .k (.row 0 1)),(6, .k (.row 1 1)),(7, .t (.i .i64)),(9, .t (.i .i64))],ob:=[.row 32 (.ls (.i .u8)), .row 32 (.ls (.i .u8))] }
noncomputable def f14:FI:={ fid:=14,fn:=Tryz.f14,c:=af Tryz.f14,ins:={ sl:=[(0, .t (.ls (.ls (.i .u8)))),(1, .t (.ls (.i .i64)))],ob:=[] },out:=.gen ({ sl:=[(2000000, .tp [.k (.row 0 1)])],ob:=[.row 32 (.ls (.i .u8))] }),cuts:=[(122,EL),(7827,Cn),(62623,y3)] }
noncomputable def f40:FI:={ fid:=40,fn:=Tryz.f40,c:=af Tryz.f40,ins:={ sl:=[],ob:=[] },out:=.gen ({ sl:=[(2000000, .tp [.k (.ptr 0 1 0 0)])],ob:=[.box [.k (.fn 2000000000 [.ptr 1 1 0 0])], .map 98 (.st .GFeed_key) (.ls (.i .u8))] }),cuts:=[] }
abbrev Is:Tm:={ sl:=[(0, .k (.ptr 0 1 0 0)),(1, .t (.i .i64)),(5, .t (.i .i64)),(13, .t (.ls (.i .u8))),(14, .t (.i .i64)),(15, .t (.i .i64)),(1000000, .k (.ptr 0 1 0 0))],ob:=[.box [.t (.st .GDocument_reader)]] }
noncomputable def f96:FI:={ fid:=96,fn:=Tryz.f96,c:=af Tryz.f96,ins:={ sl:=[(0, .k (.ptr 0 1 0 0)),(1, .t (.i .i64)),(1000000, .k (.ptr 0 1 0 0))],ob:=[.box [.t (.st .GDocument_reader)]] },out:=.gen ({ sl:=[(1000000, .k (.ptr 0 1 0 0)),(2000000, .tp [.t (.i .i64)])],ob:=[.box [.t (.st .GDocument_reader)]] }),cuts:=[(58,Is)] }
noncomputable def f45:FI:={ fid:=45,fn:=Tryz.f45,c:=af Tryz.f45,ins:={ sl:=[(0, .t (.ls (.i .u8)))] },out:=.own true 5 (.i .u8),cuts:=[] }
abbrev Ey:Tm:={ sl:=[(0, .k (.ptr 0 1 0 0)),(1, .k (.ptr 1 1 0 0)),(4, .t (.i .i64))],ob:=[.row 159 (.i .u32), .row 159 (.i .u32)] }
abbrev xM:Tm:={ sl:=[(0, .k (.ptr 0 1 0 0)),(1, .k (.ptr 1 1 0 0)),(2, .t (.i .i64)),(3, .t (.i .u32)),(4, .t (.i .i64)),(9, .t (.i .i64))],ob:=[.row 159 (.i .u32), .row 159 (.i .u32)] }
noncomputable def f124:FI:={ fid:=124,fn:=Tryz.f124,c:=af Tryz.f124,ins:={ sl:=[] },out:=.new (.t (.arr 256 (.i .u32))),cuts:=[(58,Ey),(59802,xM)] }
abbrev EP:Tm:={ sl:=[(3, .k (.ptr 0 1 0 0)),(4, .t (.i .u32)),(8, .t (.ls (.i .u8))),(9, .t (.i .i64)),(10, .t (.i .i64))],ob:=[.row 159 (.i .u32)] }
noncomputable def f94:FI:={ fid:=94,fn:=Tryz.f94,c:=af Tryz.f94,ins:={ sl:=[(0, .t (.ls (.i .u8)))] },out:=.new (.t (.i .u32)),cuts:=[(122,EP)] }
noncomputable def f122:FI:={ fid:=122,fn:=Tryz.f122,c:=af Tryz.f122,ins:={ sl:=[(0, .t (.i .i64)),(1, .t (.i .i64)),(2, .t (.i .i64))] },out:=.new (.t (.b)),cuts:=[] }
abbrev B6:Tm:={ sl:=[(0, .k (.ptr 0 2 0 0)),(1, .t (.i .i64)),(5, .t (.i .i64)),(23, .t (.ls (.i .u8))),(24, .t (.i .i64)),(25, .t (.i .i64)),(1000000, .k (.ptr 0 2 0 0))],ob:=[.box [.t (.st .GFact_reader)]] }
noncomputable def f129:FI:={ fid:=129,fn:=Tryz.f129,c:=af Tryz.f129,ins:={ sl:=[(0, .k (.ptr 0 2 0 0)),(1, .t (.i .i64)),(1000000, .k (.ptr 0 2 0 0))],ob:=[.box [.t (.st .GFact_reader)]] },out:=.gen ({ sl:=[(1000000, .k (.ptr 0 2 0 0)),(2000000, .tp [.t (.i .i64)])],ob:=[.box [.t (.st .GFact_reader)]] }),cuts:=[(122,B6)] }
abbrev BS:Tm:={ sl:=[(3, .t (.i .i64)),(6, .t (.b))],ob:=[] }
abbrev zc:Tm:={ sl:=[(3, .t (.i .i64)),(11, .t (.b))],ob:=[] }
abbrev vP:Tm:={ sl:=[(3, .t (.i .i64)),(20, .t (.b))],ob:=[] }
noncomputable def f130:FI:={ fid:=130,fn:=Tryz.f130,c:=af Tryz.f130,ins:={ sl:=[(0, .t (.i .i64))] },out:=.new (.t (.s)),cuts:=[(215,BS),(3455,zc),(221183,vP)] }
noncomputable def f168:FI:={ fid:=168,fn:=Tryz.f168,c:=af Tryz.f168,ins:={ sl:=[(0, .t (.i .i64)),(1, .t (.i .i64)),(2, .t (.i .i64))] },out:=.new (.t (.b)),cuts:=[] }
noncomputable def f215:FI:={ fid:=215,fn:=Tryz.f215,c:=af Tryz.f215,ins:={ sl:=[(0, .t (.s)),(1, .t (.i .u8))] },out:=.data (.t (.i .i64)),cuts:=[] }
noncomputable def f211:FI:={ fid:=211,fn:=Tryz.f211,c:=af Tryz.f211,ins:={ sl:=[(0, .t (.s)),(1, .t (.i .u8))] },out:=.new (.t (.i .i64)),cuts:=[] }
noncomputable def f209:FI:={ fid:=209,fn:=Tryz.f209,c:=af Tryz.f209,ins:={ sl:=[(0, .t (.s)),(1, .t (.s))] },out:=.new (.t (.i .i64)),cuts:=[] }
noncomputable def f200:FI:={ fid:=200,fn:=Tryz.f200,c:=af Tryz.f200,ins:={ sl:=[(0, .t (.s)),(1, .t (.s))] },out:=.new (.t (.i .i64)),cuts:=[] }
noncomputable def f167:FI:={ fid:=167,fn:=Tryz.f167,c:=af Tryz.f167,ins:={ sl:=[(0, .t (.s)),(1, .t (.s))] },out:=.new (.t (.b)),cuts:=[] }
noncomputable def f166:FI:={ fid:=166,fn:=Tryz.f166,c:=af Tryz.f166,ins:={ sl:=[(0, .t (.s)),(1, .dp (.s))] },out:=.new (.t (.b)),cuts:=[] }
noncomputable def f169:FI:={ fid:=169,fn:=Tryz.f169,c:=af Tryz.f169,ins:={ sl:=[(0, .t (.b)),(1, .t (.i .i64)),(2, .t (.i .i64)),(3, .t (.i .i64))] },out:=.new (.t (.b)),cuts:=[] }
noncomputable def f170:FI:={ fid:=170,fn:=Tryz.f170,c:=af Tryz.f170,ins:={ sl:=[(0, .t (.st .GSpan))] },out:=.new (.t (.b)),cuts:=[] }
abbrev zV:Tm:={ sl:=[(1, .k (.ptr 0 14 0 0)),(89, .t (.i .i64)),(97, .t (.b))],ob:=[.box [.t (.st .GFact)]] }
noncomputable def f131:FI:={ fid:=131,fn:=Tryz.f131,c:=af Tryz.f131,ins:={ sl:=[(0, .t (.st .GFact))] },out:=.new (.t (.b)),cuts:=[(2007,zV)] }
abbrev B0:Tm:={ sl:=[(0, .t (.ls (.i .u8))),(2, .k (.ptr 0 14 0 0)),(5, .k (.ptr 1 2 0 0)),(6, .t (.i .i64)),(35, .k (.ptr 2 1 0 0))],ob:=[.box [.t (.st .GFact)], .box [.t (.st .GFact_reader)], .str] }
noncomputable def f99:FI:={ fid:=99,fn:=Tryz.f99,c:=af Tryz.f99,ins:={ sl:=[(0, .t (.ls (.i .u8)))] },out:=.new (.tp [.t (.st .GFact), .t (.i .i64), .t (.b)]),cuts:=[(1018,B0)] }
noncomputable def f67:FI:={ fid:=67,fn:=Tryz.f67,c:=af Tryz.f67,ins:={ sl:=[(0, .t (.ls (.i .u8)))] },out:=.new (.tp [.t (.st .GFact), .t (.b)]),cuts:=[] }
noncomputable def f108:FI:={ fid:=108,fn:=Tryz.f108,c:=af Tryz.f108,ins:={ sl:=[(0, .t (.st .GClaim))] },out:=.new (.t (.b)),cuts:=[] }
noncomputable def f72:FI:={ fid:=72,fn:=Tryz.f72,c:=af Tryz.f72,ins:={ sl:=[(0, .t (.ls (.i .u8)))] },out:=.new (.tp [.t (.st .GClaim), .t (.b)]),cuts:=[] }
noncomputable def f91:FI:={ fid:=91,fn:=Tryz.f91,c:=af Tryz.f91,ins:={ sl:=[(0, .t (.st .GRequest))] },out:=.new (.t (.b)),cuts:=[] }
noncomputable def f150:FI:={ fid:=150,fn:=Tryz.f150,c:=af Tryz.f150,ins:={ sl:=[(0, .t (.ls (.i .u8)))] },out:=.new (.tp [.t (.st .GRequest), .t (.b)]),cuts:=[] }
noncomputable def f178:FI:={ fid:=178,fn:=Tryz.f178,c:=af Tryz.f178,ins:={ sl:=[(0, .t (.st .GRemittance))] },out:=.new (.t (.b)),cuts:=[] }
noncomputable def f151:FI:={ fid:=151,fn:=Tryz.f151,c:=af Tryz.f151,ins:={ sl:=[(0, .t (.ls (.i .u8)))] },out:=.new (.tp [.t (.st .GRemittance), .t (.b)]),cuts:=[] }
noncomputable def f179:FI:={ fid:=179,fn:=Tryz.f179,c:=af Tryz.f179,ins:={ sl:=[(0, .t (.st .GNotice))] },out:=.new (.t (.b)),cuts:=[] }
noncomputable def f152:FI:={ fid:=152,fn:=Tryz.f152,c:=af Tryz.f152,ins:={ sl:=[(0, .t (.ls (.i .u8)))] },out:=.new (.tp [.t (.st .GNotice), .t (.b)]),cuts:=[] }
noncomputable def f123:FI:={ fid:=123,fn:=Tryz.f123,c:=af Tryz.f123,ins:={ sl:=[(0, .t (.st .GDocument))] },out:=.new (.t (.b)),cuts:=[] }
noncomputable def f93:FI:={ fid:=93,fn:=Tryz.f93,c:=af Tryz.f93,ins:={ sl:=[(0, .t (.st .GDocument))] },out:=.new (.t (.b)),cuts:=[] }
noncomputable def f56:FI:={ fid:=56,fn:=Tryz.f56,c:=af Tryz.f56,ins:={ sl:=[(0, .t (.ls (.i .u8)))] },out:=.new (.tp [.t (.st .GDocument), .t (.i .i64)]),cuts:=[] }
noncomputable def f97:FI:={ fid:=97,fn:=Tryz.f97,c:=af Tryz.f97,ins:={ sl:=[(0, .t (.ls (.i .u8))),(1, .t (.ls (.i .u8)))] },out:=.data (.t (.i .i64)),cuts:=[] }
noncomputable def f57:FI:={ fid:=57,fn:=Tryz.f57,c:=af Tryz.f57,ins:={ sl:=[(0, .t (.ls (.i .u8))),(1, .t (.ls (.i .u8)))] },out:=.new (.t (.i .i64)),cuts:=[] }
noncomputable def f28:FI:={ fid:=28,fn:=Tryz.f28,c:=af Tryz.f28,ins:={ sl:=[(0, .k (.ptr 0 1 0 0)),(1, .t (.ls (.i .u8))),(1000000, .k (.ptr 0 1 0 0))],ob:=[.box [.k (.fn 2000000000 [.ptr 1 1 0 0])], .map 98 (.st .GFeed_key) (.ls (.i .u8))] },out:=.gen ({ sl:=[(1000000, .k (.ptr 0 1 0 0)),(2000000, .tp [.t (.i .i64)])],ob:=[.box [.k (.fn 2000000000 [.ptr 1 1 0 0])], .map 98 (.st .GFeed_key) (.ls (.i .u8))] }),cuts:=[] }
noncomputable def f23:FI:={ fid:=23,fn:=Tryz.f23,c:=af Tryz.f23,ins:={ sl:=[(0, .t (.ls (.i .u8)))] },out:=.new (.tp [.t (.st .GDocument), .t (.i .i64)]),cuts:=[] }
abbrev Jp:Tm:={ sl:=[(0, .dp (.st .GPensionref31_Feeds)),(1, .t (.i .i64)),(2, .t (.i .i64)),(8, .t (.i .i64))],ob:=[] }
noncomputable def f46:FI:={ fid:=46,fn:=Tryz.f46,c:=af Tryz.f46,ins:={ sl:=[(0, .dp (.st .GPensionref31_Feeds)),(1, .t (.i .i64)),(2, .t (.i .i64))] },out:=.new (.tp [.t (.i .i64), .t (.b)]),cuts:=[(26,Jp)] }
abbrev Fy:Tm:={ sl:=[(0, .k (.ptr 0 1 0 0)),(1, .t (.ls (.i .u8))),(5, .k (.ptr 1 5 0 0)),(7, .t (.i .i64)),(9, .t (.i .i64)),(1000000, .k (.ptr 0 1 0 0))],ob:=[.box [.t (.st .GPensionref31_Feeds)], .box [.t (.st .GDocument)]] }
noncomputable def f31:FI:={ fid:=31,fn:=Tryz.f31,c:=af Tryz.f31,ins:={ sl:=[(0, .k (.ptr 0 1 0 0)),(1, .t (.ls (.i .u8))),(1000000, .k (.ptr 0 1 0 0))],ob:=[.box [.t (.st .GPensionref31_Feeds)]] },out:=.gen ({ sl:=[(1000000, .k (.ptr 0 1 0 0)),(2000000, .tp [.t (.i .i64)])],ob:=[.box [.t (.st .GPensionref31_Feeds)]] }),cuts:=[(255,Fy)] }
abbrev JQ:Tm:={ sl:=[(0, .k (.row 0 1)),(5, .k (.ptr 1 1 0 0)),(6, .k (.ptr 2 1 0 0)),(7, .t (.i .i64)),(1000000, .k (.row 0 1))],ob:=[.row 32 (.ls (.i .u8)), .box [.k (.fn 2000000000 [.ptr 3 1 0 0])], .box [.t (.st .GPensionref31_Feeds)], .map 98 (.st .GFeed_key) (.ls (.i .u8))] }
noncomputable def f13:FI:={ fid:=13,fn:=Tryz.f13,c:=af Tryz.f13,ins:={ sl:=[(0, .k (.row 0 1)),(1000000, .k (.row 0 1))],ob:=[.row 32 (.ls (.i .u8))] },out:=.gen ({ sl:=[(1000000, .k (.row 0 1)),(2000000, .tp [.tp [.k (.ptr 1 1 0 0), .k (.ptr 2 1 0 0), .t (.b)]])],ob:=[.row 32 (.ls (.i .u8)), .box [.k (.fn 2000000000 [.ptr 3 1 0 0])], .box [.t (.st .GPensionref31_Feeds)], .map 98 (.st .GFeed_key) (.ls (.i .u8))] }),cuts:=[(58,JQ)] }
noncomputable def f44:FI:={ fid:=44,fn:=Tryz.f44,c:=af Tryz.f44,ins:={ sl:=[(0, .k (.ptr 0 1 0 0)),(1, .t (.i .i64)),(2, .t (.i .i64)),(1000000, .k (.ptr 0 1 0 0))],ob:=[.box [.k (.fn 2000000000 [.ptr 1 1 0 0])], .map 98 (.st .GFeed_key) (.ls (.i .u8))] },out:=.gen ({ sl:=[(1000000, .k (.ptr 0 1 0 0)),(2000000, .tp [.tp [.t (.ls (.i .u8)), .t (.b)]])],ob:=[.box [.k (.fn 2000000000 [.ptr 1 1 0 0])], .map 98 (.st .GFeed_key) (.ls (.i .u8))] }),cuts:=[] }
noncomputable def f17:FI:={ fid:=17,fn:=Tryz.f17,c:=af Tryz.f17,ins:={ sl:=[(0, .k (.ptr 0 1 0 0)),(1, .t (.i .i64)),(2, .t (.i .i64)),(1000000, .k (.ptr 0 1 0 0))],ob:=[.box [.k (.fn 2000000000 [.ptr 1 1 0 0])], .map 98 (.st .GFeed_key) (.ls (.i .u8))] },out:=.gen ({ sl:=[(1000000, .k (.ptr 0 1 0 0)),(2000000, .tp [.tp [.t (.ls (.i .u8)), .t (.b)]])],ob:=[.box [.k (.fn 2000000000 [.ptr 1 1 0 0])], .map 98 (.st .GFeed_key) (.ls (.i .u8))] }),cuts:=[] }
noncomputable def f18:FI:={ fid:=18,fn:=Tryz.f18,c:=af Tryz.f18,ins:={ sl:=[(0, .dp (.st .GPensionref31_Feeds)),(1, .t (.i .i64)),(2, .t (.i .i64))] },out:=.new (.tp [.t (.ls (.i .u8)), .t (.b)]),cuts:=[] }
abbrev Re:Tm:={ sl:=[(0, .k (.row 0 1)),(1, .t (.i .i64)),(2, .t (.i .i64))],ob:=[.row 5 (.i .u8)] }
noncomputable def f92:FI:={ fid:=92,fn:=Tryz.f92,c:=af Tryz.f92,ins:={ sl:=[(0, .k (.c .nil)),(1, .t (.i .i64)),(2, .t (.i .i64))],ob:=[] },out:=.gen ({ sl:=[(2000000, .tp [.k (.row 0 1)])],ob:=[.row 5 (.i .u8)] }),cuts:=[(26,Re)] }
abbrev CZ:Tm:={ sl:=[(0, .k (.row 0 1)),(1, .t (.i .i64)),(2, .t (.i .i64))],ob:=[.row 5 (.i .u8)] }
noncomputable def u3:FI:={ fid:=92,fn:=Tryz.f92,c:=af Tryz.f92,ins:={ sl:=[(0, .k (.row 0 1)),(1, .t (.i .i64)),(2, .t (.i .i64))],ob:=[.row 5 (.i .u8)] },out:=.gen ({ sl:=[(2000000, .tp [.k (.row 0 1)])],ob:=[.row 5 (.i .u8)] }),cuts:=[(26,CZ)] }
noncomputable def f47:FI:={ fid:=47,fn:=Tryz.f47,c:=af Tryz.f47,ins:={ sl:=[(0, .t (.st .GRequest))] },out:=.new (.tp [.t (.ls (.i .u8)), .t (.b)]),cuts:=[] }
noncomputable def f48:FI:={ fid:=48,fn:=Tryz.f48,c:=af Tryz.f48,ins:={ sl:=[(0, .t (.st .GDocument))] },out:=.new (.tp [.t (.ls (.i .u8)), .t (.i .i64)]),cuts:=[] }
noncomputable def f79:FI:={ fid:=79,fn:=Tryz.f79,c:=af Tryz.f79,ins:={ sl:=[(0, .t (.ls (.i .u8)))] },out:=.new (.t (.i .u32)),cuts:=[] }
abbrev I3:Tm:={ sl:=[(0, .k (.ptr 0 1 0 0)),(1, .t (.i .i64)),(5, .k (.row 1 5)),(6, .t (.i .u32)),(7, .t (.i .i64)),(1000000, .k (.ptr 0 1 0 0))],ob:=[.box [.k (.fn 2000000000 [.ptr 2 1 0 0])], .row 41 (.st .GDocument), .map 98 (.st .GFeed_key) (.ls (.i .u8))] }
noncomputable def f39:FI:={ fid:=39,fn:=Tryz.f39,c:=af Tryz.f39,ins:={ sl:=[(0, .k (.ptr 0 1 0 0)),(1, .t (.i .i64)),(1000000, .k (.ptr 0 1 0 0))],ob:=[.box [.k (.fn 2000000000 [.ptr 1 1 0 0])], .map 98 (.st .GFeed_key) (.ls (.i .u8))] },out:=.gen ({ sl:=[(1000000, .k (.ptr 0 1 0 0)),(2000000, .tp [.k (.row 1 5)])],ob:=[.box [.k (.fn 2000000000 [.ptr 2 1 0 0])], .row 41 (.st .GDocument), .map 98 (.st .GFeed_key) (.ls (.i .u8))] }),cuts:=[(62,I3)] }
noncomputable def f22:FI:={ fid:=22,fn:=Tryz.f22,c:=af Tryz.f22,ins:={ sl:=[(0, .k (.ptr 0 1 0 0)),(1, .t (.i .i64)),(1000000, .k (.ptr 0 1 0 0))],ob:=[.box [.k (.fn 2000000000 [.ptr 1 1 0 0])], .map 98 (.st .GFeed_key) (.ls (.i .u8))] },out:=.gen ({ sl:=[(1000000, .k (.ptr 0 1 0 0)),(2000000, .tp [.t (.i .i64)])],ob:=[.box [.k (.fn 2000000000 [.ptr 1 1 0 0])], .map 98 (.st .GFeed_key) (.ls (.i .u8))] }),cuts:=[] }
abbrev I0:Tm:={ sl:=[(0, .k (.ptr 0 1 0 0)),(1, .t (.i .i64)),(5, .t (.i .i64)),(1000000, .k (.ptr 0 1 0 0))],ob:=[.box [.k (.fn 2000000000 [.ptr 1 1 0 0])], .map 98 (.st .GFeed_key) (.ls (.i .u8))] }
noncomputable def f49:FI:={ fid:=49,fn:=Tryz.f49,c:=af Tryz.f49,ins:={ sl:=[(0, .k (.ptr 0 1 0 0)),(1, .t (.i .i64)),(1000000, .k (.ptr 0 1 0 0))],ob:=[.box [.k (.fn 2000000000 [.ptr 1 1 0 0])], .map 98 (.st .GFeed_key) (.ls (.i .u8))] },out:=.gen ({ sl:=[(1000000, .k (.ptr 0 1 0 0)),(2000000, .tp [.t (.i .i64)])],ob:=[.box [.k (.fn 2000000000 [.ptr 1 1 0 0])], .map 98 (.st .GFeed_key) (.ls (.i .u8))] }),cuts:=[(14,I0)] }
abbrev JS:Tm:={ sl:=[(0, .k (.ptr 0 1 0 0)),(1, .t (.i .i64)),(2, .t (.i .i64)),(7, .k (.row 1 1)),(8, .t (.i .i64)),(1000000, .k (.ptr 0 1 0 0))],ob:=[.box [.k (.fn 2000000000 [.ptr 2 1 0 0])], .row 5 (.i .u8), .map 98 (.st .GFeed_key) (.ls (.i .u8))] }
noncomputable def f52:FI:={ fid:=52,fn:=Tryz.f52,c:=af Tryz.f52,ins:={ sl:=[(0, .k (.ptr 0 1 0 0)),(1, .t (.i .i64)),(2, .t (.i .i64)),(1000000, .k (.ptr 0 1 0 0))],ob:=[.box [.k (.fn 2000000000 [.ptr 1 1 0 0])], .map 98 (.st .GFeed_key) (.ls (.i .u8))] },out:=.gen ({ sl:=[(1000000, .k (.ptr 0 1 0 0)),(2000000, .tp [.t (.i .u32)])],ob:=[.box [.k (.fn 2000000000 [.ptr 1 1 0 0])], .map 98 (.st .GFeed_key) (.ls (.i .u8))] }),cuts:=[(58,JS)] }
abbrev Ii:Tm:={ sl:=[(0, .k (.ptr 0 1 0 0)),(3, .k (.row 1 1)),(8, .t (.i .i64)),(1000000, .k (.ptr 0 1 0 0))],ob:=[.box [.k (.fn 2000000000 [.ptr 2 1 0 0])], .row 5 (.i .u8), .map 98 (.st .GFeed_key) (.ls (.i .u8))] }
noncomputable def f25:FI:={ fid:=25,fn:=Tryz.f25,c:=af Tryz.f25,ins:={ sl:=[(0, .k (.ptr 0 1 0 0)),(1000000, .k (.ptr 0 1 0 0))],ob:=[.box [.k (.fn 2000000000 [.ptr 1 1 0 0])], .map 98 (.st .GFeed_key) (.ls (.i .u8))] },out:=.gen ({ sl:=[(1000000, .k (.ptr 0 1 0 0)),(2000000, .tp [.k (.row 1 1)])],ob:=[.box [.k (.fn 2000000000 [.ptr 2 1 0 0])], .row 5 (.i .u8), .map 98 (.st .GFeed_key) (.ls (.i .u8))] }),cuts:=[(58,Ii)] }
noncomputable def f51:FI:={ fid:=51,fn:=Tryz.f51,c:=af Tryz.f51,ins:={ sl:=[(0, .t (.ls (.i .u8))),(1, .t (.i .i64))] },out:=.new (.tp [.t (.i .i64), .t (.i .u32)]),cuts:=[] }
abbrev Fs:Tm:={ sl:=[(1, .t (.i .i64)),(5, .k (.row 0 1)),(13, .k (.ptr 1 1 0 0)),(1000000, .k (.ptr 2 1 0 0))],ob:=[.row 3 (.i .i64), .iter (.k (.fn 2000000000 [.ptr 3 1 0 0])), .box [.k (.fn 2000000000 [.ptr 3 1 0 0])], .map 98 (.st .GFeed_key) (.ls (.i .u8))] }
noncomputable def f53:FI:={ fid:=53,fn:=Tryz.f53,c:=af Tryz.f53,ins:={ sl:=[(0, .k (.ptr 0 1 0 0)),(1, .t (.i .i64)),(1000000, .k (.ptr 0 1 0 0))],ob:=[.box [.k (.fn 2000000000 [.ptr 1 1 0 0])], .map 98 (.st .GFeed_key) (.ls (.i .u8))] },out:=.gen ({ sl:=[(1000000, .k (.ptr 0 1 0 0)),(2000000, .tp [.k (.row 1 1)])],ob:=[.box [.k (.fn 2000000000 [.ptr 2 1 0 0])], .row 3 (.i .i64), .map 98 (.st .GFeed_key) (.ls (.i .u8))] }),cuts:=[(234,Fs)] }
abbrev EA:Tm:={ sl:=[(0, .k (.ptr 0 1 0 0)),(1, .t (.ls (.i .u8))),(29, .t (.i .i64)),(1000000, .k (.ptr 0 1 0 0))],ob:=[.box [.k (.fn 2000000000 [.ptr 1 1 0 0])], .map 98 (.st .GFeed_key) (.ls (.i .u8))] }
abbrev FU:Tm:={ sl:=[(0, .k (.ptr 0 1 0 0)),(1, .t (.ls (.i .u8))),(9, .k (.row 1 1)),(41, .t (.i .i64)),(1000000, .k (.ptr 0 1 0 0))],ob:=[.box [.k (.fn 2000000000 [.ptr 2 1 0 0])], .row 32 (.ls (.i .u8)), .map 98 (.st .GFeed_key) (.ls (.i .u8))] }
abbrev xh:Tm:={ sl:=[(0, .k (.ptr 0 1 0 0)),(1, .t (.ls (.i .u8))),(9, .k (.row 1 1)),(10, .t (.i .i64)),(11, .t (.i .i64)),(13, .t (.b)),(41, .t (.i .i64)),(65, .k (.row 2 1)),(66, .t (.i .i64)),(67, .t (.i .i64)),(1000000, .k (.ptr 0 1 0 0))],ob:=[.box [.k (.fn 2000000000 [.ptr 3 1 0 0])], .row 32 (.ls (.i .u8)), .row 3 (.i .i64), .map 98 (.st .GFeed_key) (.ls (.i .u8))] }
noncomputable def f24:FI:={ fid:=24,fn:=Tryz.f24,c:=af Tryz.f24,ins:={ sl:=[(0, .k (.ptr 0 1 0 0)),(1, .t (.ls (.i .u8))),(1000000, .k (.ptr 0 1 0 0))],ob:=[.box [.k (.fn 2000000000 [.ptr 1 1 0 0])], .map 98 (.st .GFeed_key) (.ls (.i .u8))] },out:=.gen ({ sl:=[(1000000, .k (.ptr 0 1 0 0)),(2000000, .tp [.tp [.t (.ls (.ls (.i .u8))), .t (.i .i64)]])],ob:=[.box [.k (.fn 2000000000 [.ptr 1 1 0 0])], .map 98 (.st .GFeed_key) (.ls (.i .u8))] }),cuts:=[(122,EA),(506,FU),(518558,xh)] }
noncomputable def f20:FI:={ fid:=20,fn:=Tryz.f20,c:=af Tryz.f20,ins:={ sl:=[(0, .t (.ls (.i .u8))),(1, .t (.ls (.i .u8)))] },out:=.new (.t (.b)),cuts:=[] }
noncomputable def f19:FI:={ fid:=19,fn:=Tryz.f19,c:=af Tryz.f19,ins:={ sl:=[] },out:=.new (.t (.b)),cuts:=[] }
noncomputable def f3:FI:={ fid:=3,fn:=Tryz.f3,c:=af Tryz.f3,ins:={ sl:=[(0, .t (.ls (.st .GPensionlaw31_Raw))),(1, .t (.ls (.i .i64))),(2, .t (.i .i64)),(3, .t (.i .i64))] },out:=.new (.t (.b)),cuts:=[] }
abbrev zh:Tm:={ sl:=[(1, .t (.ls (.i .i64))),(5, .k (.row 0 1)),(6, .k (.row 1 1)),(7, .t (.i .i64)),(1000000, .k (.row 2 1))],ob:=[.row 32 (.ls (.i .u8)), .row 32 (.ls (.i .u8)), .row 32 (.ls (.i .u8))] }
abbrev x7:Tm:={ sl:=[(1, .t (.ls (.i .i64))),(5, .k (.row 0 1)),(6, .k (.row 1 1)),(7, .t (.i .i64)),(8, .t (.i .i64)),(1000000, .k (.row 2 1))],ob:=[.row 32 (.ls (.i .u8)), .row 32 (.ls (.i .u8)), .row 32 (.ls (.i .u8))] }
abbrev vD:Tm:={ sl:=[(1, .t (.ls (.i .i64))),(5, .k (.row 0 1)),(6, .k (.row 1 1)),(7, .t (.i .i64)),(9, .t (.i .i64)),(1000000, .k (.row 2 1))],ob:=[.row 32 (.ls (.i .u8)), .row 32 (.ls (.i .u8)), .row 32 (.ls (.i .u8))] }
noncomputable def mJ:FI:={ fid:=14,fn:=Tryz.f14,c:=af Tryz.f14,ins:={ sl:=[(0, .k (.row 0 1)),(1, .t (.ls (.i .i64))),(1000000, .k (.row 0 1))],ob:=[.row 32 (.ls (.i .u8))] },out:=.gen ({ sl:=[(1000000, .k (.row 0 1)),(2000000, .tp [.k (.row 1 1)])],ob:=[.row 32 (.ls (.i .u8)), .row 32 (.ls (.i .u8))] }),cuts:=[(122,zh),(7827,x7),(62623,vD)] }
abbrev JU:Tm:={ sl:=[(1, .t (.ls (.i .i64))),(2, .t (.i .i64)),(7, .k (.row 0 1)),(8, .k (.ptr 1 1 0 0)),(11, .t (.i .i64)),(12, .t (.i .i64))],ob:=[.row 32 (.ls (.i .u8)), .box [.k (.fn 2000000000 [.ptr 2 1 0 0])], .map 98 (.st .GFeed_key) (.ls (.i .u8))] }
abbrev CK:Tm:={ sl:=[(8, .k (.ptr 0 1 0 0)),(14, .k (.ptr 1 5 0 0)),(16, .k (.ptr 2 1 0 0)),(19, .t (.i .i64))],ob:=[.box [.k (.fn 2000000000 [.ptr 3 1 0 0])], .box [.t (.st .GDocument)], .box [.k (.fn 2000000000 [.ptr 4 1 0 0])], .map 98 (.st .GFeed_key) (.ls (.i .u8)), .map 98 (.st .GFeed_key) (.ls (.i .u8))] }
abbrev yh:Tm:={ sl:=[(8, .k (.ptr 0 1 0 0)),(14, .k (.ptr 1 5 0 0)),(16, .k (.ptr 2 1 0 0)),(19, .t (.i .i64)),(20, .t (.i .i64))],ob:=[.box [.k (.fn 2000000000 [.ptr 3 1 0 0])], .box [.t (.st .GDocument)], .box [.k (.fn 2000000000 [.ptr 4 1 0 0])], .map 98 (.st .GFeed_key) (.ls (.i .u8)), .map 98 (.st .GFeed_key) (.ls (.i .u8))] }
noncomputable def f4:FI:={ fid:=4,fn:=Tryz.f4,c:=af Tryz.f4,ins:={ sl:=[(0, .t (.ls (.st .GPensionlaw31_Raw))),(1, .t (.ls (.i .i64))),(2, .t (.i .i64))] },out:=.new (.t (.b)),cuts:=[(506,JU),(65530,CK),(4193939,yh)] }
abbrev Jm:Tm:={ sl:=[(0, .dp (.st .GPensionref31_Feeds)),(1, .t (.i .i64)),(5, .t (.i .i64))],ob:=[] }
noncomputable def f54:FI:={ fid:=54,fn:=Tryz.f54,c:=af Tryz.f54,ins:={ sl:=[(0, .dp (.st .GPensionref31_Feeds)),(1, .t (.i .i64))] },out:=.new (.t (.i .i64)),cuts:=[(14,Jm)] }
abbrev IM:Tm:={ sl:=[(0, .dp (.st .GPensionref31_Feeds)),(1, .t (.i .i64)),(2, .t (.i .i64)),(7, .k (.row 0 1)),(8, .t (.i .i64))],ob:=[.row 5 (.i .u8)] }
noncomputable def f55:FI:={ fid:=55,fn:=Tryz.f55,c:=af Tryz.f55,ins:={ sl:=[(0, .dp (.st .GPensionref31_Feeds)),(1, .t (.i .i64)),(2, .t (.i .i64))] },out:=.new (.t (.i .u32)),cuts:=[(58,IM)] }
abbrev H4:Tm:={ sl:=[(0, .k (.ptr 0 1 0 0)),(1, .t (.ls (.i .u8))),(6, .t (.i .i64)),(1000000, .k (.ptr 0 1 0 0))],ob:=[.box [.t (.st .GPensionref31_Feeds)]] }
abbrev EH:Tm:={ sl:=[(0, .k (.ptr 0 1 0 0)),(1, .t (.ls (.i .u8))),(7, .k (.row 1 1)),(8, .t (.i .i64)),(1000000, .k (.ptr 0 1 0 0))],ob:=[.box [.t (.st .GPensionref31_Feeds)], .row 32 (.ls (.i .u8))] }
noncomputable def f26:FI:={ fid:=26,fn:=Tryz.f26,c:=af Tryz.f26,ins:={ sl:=[(0, .k (.ptr 0 1 0 0)),(1, .t (.ls (.i .u8))),(1000000, .k (.ptr 0 1 0 0))],ob:=[.box [.t (.st .GPensionref31_Feeds)]] },out:=.gen ({ sl:=[(1000000, .k (.ptr 0 1 0 0)),(2000000, .tp [.tp [.t (.ls (.ls (.i .u8))), .t (.i .i64)]])],ob:=[.box [.t (.st .GPensionref31_Feeds)]] }),cuts:=[(58,H4),(250,EH)] }
abbrev I9:Tm:={ sl:=[(0, .t (.ls (.ls (.i .u8)))),(1, .t (.ls (.ls (.i .u8)))),(5, .t (.i .i64))],ob:=[] }
noncomputable def f27:FI:={ fid:=27,fn:=Tryz.f27,c:=af Tryz.f27,ins:={ sl:=[(0, .t (.ls (.ls (.i .u8)))),(1, .t (.ls (.ls (.i .u8))))] },out:=.new (.t (.b)),cuts:=[(58,I9)] }
noncomputable def f5:FI:={ fid:=5,fn:=Tryz.f5,c:=af Tryz.f5,ins:={ sl:=[(0, .t (.ls (.st .GPensionlaw31_Raw))),(1, .t (.ls (.st .GPensionlaw31_Raw))),(2, .t (.ls (.i .i64))),(3, .t (.ls (.i .u8)))] },out:=.new (.t (.b)),cuts:=[] }
abbrev IR:Tm:={ sl:=[(5, .k (.ptr 0 1 0 0)),(8, .k (.ptr 1 1 0 0)),(11, .t (.i .i64))],ob:=[.box [.k (.fn 2000000000 [.ptr 2 1 0 0])], .box [.k (.fn 2000000000 [.ptr 3 1 0 0])], .map 98 (.st .GFeed_key) (.ls (.i .u8)), .map 98 (.st .GFeed_key) (.ls (.i .u8))] }
abbrev zF:Tm:={ sl:=[(5, .k (.ptr 0 1 0 0)),(8, .k (.ptr 1 1 0 0)),(11, .t (.i .i64)),(12, .t (.ls (.ls (.i .u8)))),(14, .t (.ls (.ls (.i .u8)))),(16, .t (.i .i64))],ob:=[.box [.k (.fn 2000000000 [.ptr 2 1 0 0])], .box [.k (.fn 2000000000 [.ptr 3 1 0 0])], .map 98 (.st .GFeed_key) (.ls (.i .u8)), .map 98 (.st .GFeed_key) (.ls (.i .u8))] }
abbrev y7:Tm:={ sl:=[(5, .k (.ptr 0 1 0 0)),(8, .k (.ptr 1 1 0 0)),(11, .t (.i .i64)),(14, .t (.ls (.ls (.i .u8)))),(17, .t (.i .i64))],ob:=[.box [.k (.fn 2000000000 [.ptr 2 1 0 0])], .box [.k (.fn 2000000000 [.ptr 3 1 0 0])], .map 98 (.st .GFeed_key) (.ls (.i .u8)), .map 98 (.st .GFeed_key) (.ls (.i .u8))] }
noncomputable def f6:FI:={ fid:=6,fn:=Tryz.f6,c:=af Tryz.f6,ins:={ sl:=[(0, .t (.ls (.st .GPensionlaw31_Raw))),(1, .t (.ls (.st .GPensionlaw31_Raw)))] },out:=.new (.t (.b)),cuts:=[(250,IR),(256314,zF),(256318,y7)] }
noncomputable def f59:FI:={ fid:=59,fn:=Tryz.f59,c:=af Tryz.f59,ins:={ sl:=[(0, .t (.ls (.i .u8))),(1, .t (.ls (.i .u8)))] },out:=.new (.t (.b)),cuts:=[] }
abbrev JJ:Tm:={ sl:=[(1, .k (.fn 2000000000 [.ptr 0 1 0 0])),(2, .fn 59 []),(17, .k (.ptr 1 1 0 0)),(1000000, .k (.fn 2000000000 [.ptr 2 1 0 0])),(1000001, .k (.fn 2000000000 [.ptr 0 1 0 0]))],ob:=[.map 98 (.st .GFeed_key) (.ls (.i .u8)), .iter (.k (.fn 2000000000 [.ptr 2 1 0 0])), .map 98 (.st .GFeed_key) (.ls (.i .u8))] }
noncomputable def f58:FI:={ fid:=58,fn:=Tryz.f58,c:=af Tryz.f58,ins:={ sl:=[(0, .k (.fn 2000000000 [.ptr 0 1 0 0])),(1, .k (.fn 2000000000 [.ptr 1 1 0 0])),(2, .fn 59 []),(1000000, .k (.fn 2000000000 [.ptr 0 1 0 0])),(1000001, .k (.fn 2000000000 [.ptr 1 1 0 0]))],ob:=[.map 98 (.st .GFeed_key) (.ls (.i .u8)), .map 98 (.st .GFeed_key) (.ls (.i .u8))] },out:=.gen ({ sl:=[(1000000, .k (.fn 2000000000 [.ptr 0 1 0 0])),(1000001, .k (.fn 2000000000 [.ptr 1 1 0 0])),(2000000, .tp [.t (.b)])],ob:=[.map 98 (.st .GFeed_key) (.ls (.i .u8)), .map 98 (.st .GFeed_key) (.ls (.i .u8))] }),cuts:=[(58,JJ)] }
abbrev I7:Tm:={ sl:=[(1, .k (.ptr 0 1 0 0)),(5, .k (.fn 2000000000 [.ptr 1 1 0 0])),(1000000, .k (.ptr 2 1 0 0)),(1000001, .k (.ptr 0 1 0 0))],ob:=[.box [.k (.fn 2000000000 [.ptr 3 1 0 0])], .map 98 (.st .GFeed_key) (.ls (.i .u8)), .box [.k (.fn 2000000000 [.ptr 1 1 0 0])], .map 98 (.st .GFeed_key) (.ls (.i .u8))] }
noncomputable def f29:FI:={ fid:=29,fn:=Tryz.f29,c:=af Tryz.f29,ins:={ sl:=[(0, .k (.ptr 0 1 0 0)),(1, .k (.ptr 1 1 0 0)),(1000000, .k (.ptr 0 1 0 0)),(1000001, .k (.ptr 1 1 0 0))],ob:=[.box [.k (.fn 2000000000 [.ptr 2 1 0 0])], .box [.k (.fn 2000000000 [.ptr 3 1 0 0])], .map 98 (.st .GFeed_key) (.ls (.i .u8)), .map 98 (.st .GFeed_key) (.ls (.i .u8))] },out:=.gen ({ sl:=[(1000000, .k (.ptr 0 1 0 0)),(1000001, .k (.ptr 1 1 0 0)),(2000000, .tp [.t (.b)])],ob:=[.box [.k (.fn 2000000000 [.ptr 2 1 0 0])], .box [.k (.fn 2000000000 [.ptr 3 1 0 0])], .map 98 (.st .GFeed_key) (.ls (.i .u8)), .map 98 (.st .GFeed_key) (.ls (.i .u8))] }),cuts:=[(15,I7)] }
abbrev IQ:Tm:={ sl:=[(1, .t (.ls (.i .i64))),(2, .t (.ls (.i .i64))),(7, .k (.row 0 1)),(8, .k (.c .nil)),(9, .k (.c .nil)),(10, .k (.ptr 1 1 0 0)),(11, .k (.ptr 2 1 0 0)),(12, .t (.i .i64))],ob:=[.row 32 (.ls (.i .u8)), .row 53 (.i .i64), .row 53 (.i .i64)] }
abbrev Kl:Tm:={ sl:=[(7, .k (.row 0 1)),(8, .k (.row 1 1)),(9, .k (.row 2 1)),(10, .k (.ptr 3 1 0 0)),(11, .k (.ptr 4 1 0 0)),(13, .t (.i .i64))],ob:=[.row 32 (.ls (.i .u8)), .row 32 (.ls (.i .u8)), .row 32 (.ls (.i .u8)), .row 53 (.i .i64), .row 53 (.i .i64)] }
abbrev Ci:Tm:={ sl:=[(1, .t (.ls (.i .i64))),(2, .t (.ls (.i .i64))),(7, .k (.row 0 1)),(8, .k (.c .nil)),(9, .k (.c .nil)),(10, .k (.ptr 1 1 0 0)),(11, .k (.ptr 2 1 0 0)),(12, .t (.i .i64))],ob:=[.row 32 (.ls (.i .u8)), .row 53 (.i .i64), .row 53 (.i .i64)] }
abbrev CV:Tm:={ sl:=[(7, .k (.row 0 1)),(8, .k (.row 1 1)),(9, .k (.row 2 1)),(10, .k (.ptr 3 1 0 0)),(11, .k (.ptr 4 1 0 0)),(13, .t (.i .i64)),(14, .k (.ptr 5 5 0 0))],ob:=[.row 32 (.ls (.i .u8)), .row 32 (.ls (.i .u8)), .row 32 (.ls (.i .u8)), .row 53 (.i .i64), .row 53 (.i .i64), .box [.t (.st .GDocument)]] }
abbrev BX:Tm:={ sl:=[(16, .k (.ptr 0 1 0 0)),(19, .k (.ptr 1 1 0 0)),(22, .t (.ls (.ls (.i .u8)))),(24, .t (.ls (.ls (.i .u8)))),(26, .t (.i .i64))],ob:=[.box [.k (.fn 2000000000 [.ptr 2 1 0 0])], .box [.k (.fn 2000000000 [.ptr 3 1 0 0])], .map 98 (.st .GFeed_key) (.ls (.i .u8)), .map 98 (.st .GFeed_key) (.ls (.i .u8))] }
abbrev Ao:Tm:={ sl:=[(16, .k (.ptr 0 1 0 0)),(19, .k (.ptr 1 1 0 0)),(24, .t (.ls (.ls (.i .u8)))),(27, .t (.i .i64))],ob:=[.box [.k (.fn 2000000000 [.ptr 2 1 0 0])], .box [.k (.fn 2000000000 [.ptr 3 1 0 0])], .map 98 (.st .GFeed_key) (.ls (.i .u8)), .map 98 (.st .GFeed_key) (.ls (.i .u8))] }
noncomputable def f7:FI:={ fid:=7,fn:=Tryz.f7,c:=af Tryz.f7,ins:={ sl:=[(0, .t (.ls (.st .GPensionlaw31_Raw))),(1, .t (.ls (.i .i64))),(2, .t (.ls (.i .i64)))] },out:=.new (.t (.b)),cuts:=[(250,IQ),(506,Kl),(16019,Ci),(64807,CV),(65530,BX),(131066,Ao)] }
abbrev FA:Tm:={ sl:=[(0, .k (.ptr 0 1 0 0)),(1, .t (.i .i64)),(5, .k (.row 1 5)),(6, .t (.i .u32)),(7, .t (.i .i64)),(8, .t (.i .i64)),(1000000, .k (.ptr 0 1 0 0))],ob:=[.box [.t (.st .GPensionref31_Feeds)], .row 41 (.st .GDocument)] }
noncomputable def f60:FI:={ fid:=60,fn:=Tryz.f60,c:=af Tryz.f60,ins:={ sl:=[(0, .k (.ptr 0 1 0 0)),(1, .t (.i .i64)),(1000000, .k (.ptr 0 1 0 0))],ob:=[.box [.t (.st .GPensionref31_Feeds)]] },out:=.gen ({ sl:=[(1000000, .k (.ptr 0 1 0 0)),(2000000, .tp [.k (.row 1 5)])],ob:=[.box [.t (.st .GPensionref31_Feeds)], .row 41 (.st .GDocument)] }),cuts:=[(250,FA)] }
abbrev zX:Tm:={ sl:=[(0, .dp (.st .GPensionref31_Feeds)),(1, .t (.i .i64)),(5, .k (.row 0 5)),(6, .t (.i .u32)),(7, .t (.i .i64)),(8, .t (.i .i64))],ob:=[.row 41 (.st .GDocument)] }
noncomputable def uK:FI:={ fid:=60,fn:=Tryz.f60,c:=af Tryz.f60,ins:={ sl:=[(0, .dp (.st .GPensionref31_Feeds)),(1, .t (.i .i64))],ob:=[] },out:=.gen ({ sl:=[(2000000, .tp [.k (.row 0 5)])],ob:=[.row 41 (.st .GDocument)] }),cuts:=[(250,zX)] }
noncomputable def f61:FI:={ fid:=61,fn:=Tryz.f61,c:=af Tryz.f61,ins:={ sl:=[(0, .dp (.st .GPensionref31_Feeds)),(1, .t (.i .i64))] },out:=.new (.t (.i .i64)),cuts:=[] }
noncomputable def f126:FI:={ fid:=126,fn:=Tryz.f126,c:=af Tryz.f126,ins:={ sl:=[(0, .t (.st .GSpan))] },out:=.new (.t (.st .GSpan)),cuts:=[] }
abbrev JN:Tm:={ sl:=[(3, .k (.ptr 0 1 0 0)),(10, .t (.ls (.st .GSpan))),(11, .t (.i .i64)),(12, .t (.i .i64))],ob:=[.box [.k (.row 1 2)], .row 105 (.st .GSpan)] }
abbrev Em:Tm:={ sl:=[(6, .k (.row 0 2)),(32, .k (.row 1 2)),(33, .t (.i .i64)),(34, .t (.i .i64))],ob:=[.row 105 (.st .GSpan), .row 105 (.st .GSpan)] }
noncomputable def f98:FI:={ fid:=98,fn:=Tryz.f98,c:=af Tryz.f98,ins:={ sl:=[(0, .t (.ls (.st .GSpan)))] },out:=.own true 105 (.st .GSpan),cuts:=[(58,JN),(506,Em)] }
abbrev HT:Tm:={ sl:=[(5, .k (.row 0 2)),(10, .k (.row 1 1)),(11, .t (.i .i64)),(12, .t (.i .i64)),(1000000, .k (.ptr 2 1 0 0))],ob:=[.row 105 (.st .GSpan), .row 3 (.i .i64), .box [.k (.fn 2000000000 [.ptr 3 1 0 0])], .map 98 (.st .GFeed_key) (.ls (.i .u8))] }
noncomputable def f63:FI:={ fid:=63,fn:=Tryz.f63,c:=af Tryz.f63,ins:={ sl:=[(0, .k (.ptr 0 1 0 0)),(1, .t (.i .i64)),(1000000, .k (.ptr 0 1 0 0))],ob:=[.box [.k (.fn 2000000000 [.ptr 1 1 0 0])], .map 98 (.st .GFeed_key) (.ls (.i .u8))] },out:=.gen ({ sl:=[(1000000, .k (.ptr 0 1 0 0)),(2000000, .tp [.k (.row 1 2)])],ob:=[.box [.k (.fn 2000000000 [.ptr 2 1 0 0])], .row 105 (.st .GSpan), .map 98 (.st .GFeed_key) (.ls (.i .u8))] }),cuts:=[(58,HT)] }
abbrev IY:Tm:={ sl:=[(0, .dp (.st .GPensionref31_Feeds)),(1, .t (.i .i64)),(5, .k (.row 0 2)),(6, .t (.i .i64))],ob:=[.row 105 (.st .GSpan)] }
noncomputable def f64:FI:={ fid:=64,fn:=Tryz.f64,c:=af Tryz.f64,ins:={ sl:=[(0, .dp (.st .GPensionref31_Feeds)),(1, .t (.i .i64))] },out:=.own true 105 (.st .GSpan),cuts:=[(58,IY)] }
abbrev H3:Tm:={ sl:=[(0, .t (.ls (.st .GSpan))),(1, .t (.ls (.st .GSpan))),(5, .t (.i .i64))],ob:=[] }
noncomputable def f62:FI:={ fid:=62,fn:=Tryz.f62,c:=af Tryz.f62,ins:={ sl:=[(0, .t (.ls (.st .GSpan))),(1, .t (.ls (.st .GSpan)))] },out:=.new (.t (.b)),cuts:=[(58,H3)] }
abbrev Iz:Tm:={ sl:=[(0, .dp (.st .GPensionref31_Feeds)),(3, .k (.row 0 1)),(4, .t (.i .i64))],ob:=[.row 5 (.i .u8)] }
noncomputable def f66:FI:={ fid:=66,fn:=Tryz.f66,c:=af Tryz.f66,ins:={ sl:=[(0, .dp (.st .GPensionref31_Feeds))] },out:=.own true 5 (.i .u8),cuts:=[(58,Iz)] }
noncomputable def f65:FI:={ fid:=65,fn:=Tryz.f65,c:=af Tryz.f65,ins:={ sl:=[(0, .t (.st .GDocument)),(1, .t (.st .GDocument))] },out:=.new (.t (.b)),cuts:=[] }
abbrev Ij:Tm:={ sl:=[(0, .k (.ptr 0 1 0 0)),(1, .k (.ptr 1 1 0 0)),(5, .t (.i .i64)),(1000000, .k (.ptr 0 1 0 0)),(1000001, .k (.ptr 1 1 0 0))],ob:=[.box [.k (.fn 2000000000 [.ptr 2 1 0 0])], .box [.t (.st .GPensionref31_Feeds)], .map 98 (.st .GFeed_key) (.ls (.i .u8))] }
abbrev BQ:Tm:={ sl:=[(0, .k (.ptr 0 1 0 0)),(1, .k (.ptr 1 1 0 0)),(5, .t (.i .i64)),(6, .k (.row 2 5)),(7, .k (.row 3 5)),(8, .t (.i .i64)),(27, .k (.ptr 0 1 0 0)),(28, .t (.i .i64)),(29, .t (.i .i64)),(30, .k (.ptr 1 1 0 0)),(31, .t (.i .i64)),(32, .t (.i .i64)),(33, .t (.b)),(36, .k (.ptr 0 1 0 0)),(37, .t (.i .i64)),(38, .k (.row 4 2)),(39, .k (.ptr 1 1 0 0)),(40, .t (.i .i64)),(41, .k (.row 5 2)),(42, .t (.b)),(43, .t (.b)),(46, .k (.row 2 5)),(47, .t (.i .i64)),(48, .k (.row 3 5)),(49, .t (.i .i64)),(50, .t (.b)),(1000000, .k (.ptr 0 1 0 0)),(1000001, .k (.ptr 1 1 0 0))],ob:=[.box [.k (.fn 2000000000 [.ptr 6 1 0 0])], .box [.t (.st .GPensionref31_Feeds)], .row 41 (.st .GDocument), .row 41 (.st .GDocument), .row 105 (.st .GSpan), .row 105 (.st .GSpan), .map 98 (.st .GFeed_key) (.ls (.i .u8))] }
noncomputable def f30:FI:={ fid:=30,fn:=Tryz.f30,c:=af Tryz.f30,ins:={ sl:=[(0, .k (.ptr 0 1 0 0)),(1, .k (.ptr 1 1 0 0)),(1000000, .k (.ptr 0 1 0 0)),(1000001, .k (.ptr 1 1 0 0))],ob:=[.box [.k (.fn 2000000000 [.ptr 2 1 0 0])], .box [.t (.st .GPensionref31_Feeds)], .map 98 (.st .GFeed_key) (.ls (.i .u8))] },out:=.gen ({ sl:=[(1000000, .k (.ptr 0 1 0 0)),(1000001, .k (.ptr 1 1 0 0)),(2000000, .tp [.t (.b)])],ob:=[.box [.k (.fn 2000000000 [.ptr 2 1 0 0])], .box [.t (.st .GPensionref31_Feeds)], .map 98 (.st .GFeed_key) (.ls (.i .u8))] }),cuts:=[(26,Ij),(6734,BQ)] }
noncomputable def f8:FI:={ fid:=8,fn:=Tryz.f8,c:=af Tryz.f8,ins:={ sl:=[(0, .t (.ls (.st .GPensionlaw31_Raw))),(1, .t (.ls (.i .i64)))] },out:=.new (.t (.b)),cuts:=[] }
noncomputable def f9:FI:={ fid:=9,fn:=Tryz.f9,c:=af Tryz.f9,ins:={ sl:=[(0, .t (.ls (.st .GPensionlaw31_Raw))),(1, .t (.ls (.i .u8))),(2, .t (.i .i64)),(3, .t (.i .i64))] },out:=.new (.t (.b)),cuts:=[] }
noncomputable def f145:FI:={ fid:=145,fn:=Tryz.f145,c:=af Tryz.f145,ins:={ sl:=[(0, .t (.i .i64))] },out:=.new (.t (.b)),cuts:=[] }
noncomputable def f112:FI:={ fid:=112,fn:=Tryz.f112,c:=af Tryz.f112,ins:={ sl:=[(0, .t (.i .i64)),(1, .t (.i .i64))] },out:=.new (.t (.i .i64)),cuts:=[] }
abbrev QX:Tm:={ sl:=[(3, .t (.i .i64)),(6, .t (.ls (.i .i64))),(7, .t (.i .i64)),(8, .t (.i .i64))],ob:=[] }
noncomputable def f111:FI:={ fid:=111,fn:=Tryz.f111,c:=af Tryz.f111,ins:={ sl:=[(0, .t (.ls (.i .i64)))] },out:=.new (.t (.i .i64)),cuts:=[(58,QX)] }
noncomputable def f102:FI:={ fid:=102,fn:=Tryz.f102,c:=af Tryz.f102,ins:={ sl:=[(0, .t (.st .GFact)),(1, .t (.st .GFact))] },out:=.new (.t (.i .i64)),cuts:=[] }
abbrev QW:Tm:={ sl:=[(0, .k (.row 0 1)),(1, .t (.i .i64)),(10, .t (.ls (.i .i64))),(11, .t (.i .i64)),(12, .t (.i .i64))],ob:=[.row 5 (.i .u8)] }
abbrev ND:Tm:={ sl:=[(0, .k (.row 0 1)),(1, .t (.i .i64)),(8, .t (.i .i64)),(9, .t (.i .i64)),(10, .t (.ls (.i .i64))),(11, .t (.i .i64)),(12, .t (.i .i64))],ob:=[.row 5 (.i .u8)] }
noncomputable def f201:FI:={ fid:=201,fn:=Tryz.f201,c:=af Tryz.f201,ins:={ sl:=[(0, .k (.c .nil)),(1, .t (.i .i64)),(2, .t (.ls (.i .i64)))],ob:=[] },out:=.gen ({ sl:=[(2000000, .tp [.k (.row 0 1)])],ob:=[.row 5 (.i .u8)] }),cuts:=[(26,QW),(6758,ND)] }
abbrev Ok:Tm:={ sl:=[(0, .k (.row 0 1)),(1, .t (.i .i64)),(10, .t (.ls (.i .i64))),(11, .t (.i .i64)),(12, .t (.i .i64))],ob:=[.row 5 (.i .u8)] }
abbrev Ky:Tm:={ sl:=[(0, .k (.row 0 1)),(1, .t (.i .i64)),(8, .t (.i .i64)),(9, .t (.i .i64)),(10, .t (.ls (.i .i64))),(11, .t (.i .i64)),(12, .t (.i .i64))],ob:=[.row 5 (.i .u8)] }
noncomputable def OG:FI:={ fid:=201,fn:=Tryz.f201,c:=af Tryz.f201,ins:={ sl:=[(0, .k (.row 0 1)),(1, .t (.i .i64)),(2, .t (.ls (.i .i64)))],ob:=[.row 5 (.i .u8)] },out:=.gen ({ sl:=[(2000000, .tp [.k (.row 0 1)])],ob:=[.row 5 (.i .u8)] }),cuts:=[(26,Ok),(6758,Ky)] }
abbrev QF:Tm:={ sl:=[(1, .k (.ptr 0 14 0 0)),(3, .t (.i .i64))],ob:=[.box [.t (.st .GFact)]] }
abbrev Ns:Tm:={ sl:=[(1, .k (.ptr 0 14 0 0)),(4, .k (.row 1 1)),(34, .k (.ptr 2 1 0 0))],ob:=[.box [.t (.st .GFact)], .row 5 (.i .u8), .str] }
noncomputable def f171:FI:={ fid:=171,fn:=Tryz.f171,c:=af Tryz.f171,ins:={ sl:=[(0, .t (.st .GFact))] },out:=.own true 5 (.i .u8),cuts:=[(31,QF),(2042,Ns)] }
noncomputable def f132:FI:={ fid:=132,fn:=Tryz.f132,c:=af Tryz.f132,ins:={ sl:=[(0, .t (.st .GFact)),(1, .t (.st .GFact))] },out:=.new (.t (.b)),cuts:=[] }
noncomputable def f103:FI:={ fid:=103,fn:=Tryz.f103,c:=af Tryz.f103,ins:={ sl:=[(0, .t (.st .GFact)),(1, .t (.st .GFact))] },out:=.new (.t (.st .GFact)),cuts:=[] }
abbrev Qm:Tm:={ sl:=[(0, .t (.ls (.st .GFact))),(1, .t (.ls (.st .GFact))),(2, .fn 102 []),(3, .fn 103 []),(9, .k (.row 0 14))],ob:=[.row 110 (.st .GFact)] }
noncomputable def f100:FI:={ fid:=100,fn:=Tryz.f100,c:=af Tryz.f100,ins:={ sl:=[(0, .t (.ls (.st .GFact))),(1, .t (.ls (.st .GFact))),(2, .fn 102 []),(3, .fn 103 [])] },out:=.own true 110 (.st .GFact),cuts:=[(28,Qm)] }
abbrev QJ:Tm:={ sl:=[(3, .k (.row 0 14)),(6, .t (.ls (.st .GFact))),(7, .t (.i .i64)),(8, .t (.i .i64))],ob:=[.row 110 (.st .GFact)] }
noncomputable def f101:FI:={ fid:=101,fn:=Tryz.f101,c:=af Tryz.f101,ins:={ sl:=[(0, .t (.ls (.st .GFact)))] },out:=.own true 110 (.st .GFact),cuts:=[(58,QJ)] }
noncomputable def f68:FI:={ fid:=68,fn:=Tryz.f68,c:=af Tryz.f68,ins:={ sl:=[(0, .t (.ls (.st .GFact))),(1, .t (.ls (.st .GFact)))] },out:=.own true 110 (.st .GFact),cuts:=[] }
abbrev Rt:Tm:={ sl:=[(0, .k (.ptr 0 1 0 0)),(3, .k (.row 1 14)),(9, .t (.i .i64)),(1000000, .k (.ptr 0 1 0 0))],ob:=[.box [.k (.fn 2000000000 [.ptr 2 1 0 0])], .row 110 (.st .GFact), .map 98 (.st .GFeed_key) (.ls (.i .u8))] }
abbrev Np:Tm:={ sl:=[(0, .k (.ptr 0 1 0 0)),(3, .k (.row 1 14)),(9, .t (.i .i64)),(14, .k (.row 2 5)),(15, .t (.i .i64)),(16, .t (.i .i64)),(1000000, .k (.ptr 0 1 0 0))],ob:=[.box [.k (.fn 2000000000 [.ptr 3 1 0 0])], .row 110 (.st .GFact), .row 41 (.st .GDocument), .map 98 (.st .GFeed_key) (.ls (.i .u8))] }
noncomputable def f33:FI:={ fid:=33,fn:=Tryz.f33,c:=af Tryz.f33,ins:={ sl:=[(0, .k (.ptr 0 1 0 0)),(1000000, .k (.ptr 0 1 0 0))],ob:=[.box [.k (.fn 2000000000 [.ptr 1 1 0 0])], .map 98 (.st .GFeed_key) (.ls (.i .u8))] },out:=.gen ({ sl:=[(1000000, .k (.ptr 0 1 0 0)),(2000000, .tp [.k (.row 1 14)])],ob:=[.box [.k (.fn 2000000000 [.ptr 2 1 0 0])], .row 110 (.st .GFact), .map 98 (.st .GFeed_key) (.ls (.i .u8))] }),cuts:=[(58,Rt),(14950,Np)] }
abbrev Rm:Tm:={ sl:=[(0, .dp (.st .GPensionref31_Feeds)),(3, .k (.row 0 5)),(4, .t (.i .i64))],ob:=[.row 41 (.st .GDocument)] }
noncomputable def f69:FI:={ fid:=69,fn:=Tryz.f69,c:=af Tryz.f69,ins:={ sl:=[(0, .dp (.st .GPensionref31_Feeds))],ob:=[] },out:=.gen ({ sl:=[(2000000, .tp [.k (.row 0 5)])],ob:=[.row 41 (.st .GDocument)] }),cuts:=[(58,Rm)] }
noncomputable def f106:FI:={ fid:=106,fn:=Tryz.f106,c:=af Tryz.f106,ins:={ sl:=[(0, .t (.st .GFact)),(1, .t (.st .GFact))] },out:=.new (.t (.i .i64)),cuts:=[] }
noncomputable def f107:FI:={ fid:=107,fn:=Tryz.f107,c:=af Tryz.f107,ins:={ sl:=[(0, .t (.st .GFact)),(1, .t (.st .GFact))] },out:=.new (.t (.b)),cuts:=[] }
abbrev Rd:Tm:={ sl:=[(0, .t (.ls (.st .GFact))),(1, .t (.ls (.st .GFact))),(5, .k (.row 0 14)),(6, .t (.i .i64))],ob:=[.row 110 (.st .GFact)] }
abbrev Pq:Tm:={ sl:=[(0, .t (.ls (.st .GFact))),(1, .t (.ls (.st .GFact))),(5, .k (.row 0 14)),(6, .t (.i .i64)),(7, .k (.ptr 1 14 0 0))],ob:=[.row 110 (.st .GFact), .box [.t (.st .GFact)]] }
abbrev Ot:Tm:={ sl:=[(0, .t (.ls (.st .GFact))),(1, .t (.ls (.st .GFact))),(5, .k (.row 0 14)),(6, .t (.i .i64)),(7, .k (.ptr 1 14 0 0)),(8, .t (.i .i64))],ob:=[.row 110 (.st .GFact), .box [.t (.st .GFact)]] }
noncomputable def f71:FI:={ fid:=71,fn:=Tryz.f71,c:=af Tryz.f71,ins:={ sl:=[(0, .t (.ls (.st .GFact))),(1, .t (.ls (.st .GFact)))] },out:=.own true 110 (.st .GFact),cuts:=[(58,Rd),(3731,Pq),(59708,Ot)] }
abbrev Q1:Tm:={ sl:=[(3, .k (.row 0 5)),(4, .k (.row 1 14)),(5, .t (.i .i64))],ob:=[.row 41 (.st .GDocument), .row 110 (.st .GFact)] }
noncomputable def f34:FI:={ fid:=34,fn:=Tryz.f34,c:=af Tryz.f34,ins:={ sl:=[(0, .dp (.st .GPensionref31_Feeds))] },out:=.own true 110 (.st .GFact),cuts:=[(122,Q1)] }
abbrev Rs:Tm:={ sl:=[(0, .t (.ls (.st .GFact))),(1, .t (.ls (.st .GFact))),(5, .t (.i .i64))],ob:=[] }
noncomputable def f32:FI:={ fid:=32,fn:=Tryz.f32,c:=af Tryz.f32,ins:={ sl:=[(0, .t (.ls (.st .GFact))),(1, .t (.ls (.st .GFact)))] },out:=.new (.t (.b)),cuts:=[(58,Rs)] }
abbrev O3:Tm:={ sl:=[(0, .k (.row 0 6)),(3, .t (.i .i64))],ob:=[.row 64 (.st .GClaim)] }
abbrev KL:Tm:={ sl:=[(0, .k (.row 0 6)),(3, .t (.i .i64)),(4, .sb 0 6),(5, .t (.i .i64))],ob:=[.row 64 (.st .GClaim)] }
noncomputable def Qb:FI:={ fid:=75,fn:=Tryz.f75,c:=af Tryz.f75,ins:={ sl:=[(0, .k (.row 0 6))],ob:=[.row 64 (.st .GClaim)] },out:=.gen ({ sl:=[(2000000, .tp [.t (.ls (.st .GClaim))])],ob:=[] }),cuts:=[(58,O3),(59690,KL)] }
abbrev Q6:Tm:={ sl:=[(0, .k (.ptr 0 1 0 0)),(3, .k (.row 1 6)),(9, .t (.i .i64)),(1000000, .k (.ptr 0 1 0 0))],ob:=[.box [.k (.fn 2000000000 [.ptr 2 1 0 0])], .row 64 (.st .GClaim), .map 98 (.st .GFeed_key) (.ls (.i .u8))] }
abbrev Ni:Tm:={ sl:=[(0, .k (.ptr 0 1 0 0)),(3, .k (.row 1 6)),(9, .t (.i .i64)),(14, .k (.row 2 5)),(15, .t (.i .i64)),(16, .t (.i .i64)),(1000000, .k (.ptr 0 1 0 0))],ob:=[.box [.k (.fn 2000000000 [.ptr 3 1 0 0])], .row 64 (.st .GClaim), .row 41 (.st .GDocument), .map 98 (.st .GFeed_key) (.ls (.i .u8))] }
noncomputable def f36:FI:={ fid:=36,fn:=Tryz.f36,c:=af Tryz.f36,ins:={ sl:=[(0, .k (.ptr 0 1 0 0)),(1000000, .k (.ptr 0 1 0 0))],ob:=[.box [.k (.fn 2000000000 [.ptr 1 1 0 0])], .map 98 (.st .GFeed_key) (.ls (.i .u8))] },out:=.gen ({ sl:=[(1000000, .k (.ptr 0 1 0 0)),(2000000, .tp [.t (.ls (.st .GClaim))])],ob:=[.box [.k (.fn 2000000000 [.ptr 1 1 0 0])], .map 98 (.st .GFeed_key) (.ls (.i .u8))] }),cuts:=[(58,Q6),(14950,Ni)] }
abbrev O9:Tm:={ sl:=[(0, .k (.ptr 0 1 0 0)),(3, .k (.row 1 5)),(4, .t (.i .i64)),(1000000, .k (.ptr 0 1 0 0))],ob:=[.box [.t (.st .GPensionref31_Feeds)], .row 41 (.st .GDocument)] }
noncomputable def Qj:FI:={ fid:=69,fn:=Tryz.f69,c:=af Tryz.f69,ins:={ sl:=[(0, .k (.ptr 0 1 0 0)),(1000000, .k (.ptr 0 1 0 0))],ob:=[.box [.t (.st .GPensionref31_Feeds)]] },out:=.gen ({ sl:=[(1000000, .k (.ptr 0 1 0 0)),(2000000, .tp [.k (.row 1 5)])],ob:=[.box [.t (.st .GPensionref31_Feeds)], .row 41 (.st .GDocument)] }),cuts:=[(58,O9)] }
abbrev PE:Tm:={ sl:=[(5, .k (.ptr 0 1 0 0)),(6, .k (.ptr 1 1 0 0)),(7, .t (.i .i64))],ob:=[.row 53 (.i .i64), .row 53 (.i .i64)] }
noncomputable def f113:FI:={ fid:=113,fn:=Tryz.f113,c:=af Tryz.f113,ins:={ sl:=[(0, .t (.st .GClaim)),(1, .t (.st .GClaim))] },out:=.new (.t (.b)),cuts:=[(122,PE)] }
abbrev Ri:Tm:={ sl:=[(0, .t (.ls (.st .GClaim))),(3, .k (.ptr 0 6 0 0)),(5, .t (.i .i64))],ob:=[.box [.t (.st .GClaim)]] }
noncomputable def f77:FI:={ fid:=77,fn:=Tryz.f77,c:=af Tryz.f77,ins:={ sl:=[(0, .t (.ls (.st .GClaim))),(1, .t (.st .GClaim))] },out:=.data (.t (.ls (.st .GClaim))),cuts:=[(28,Ri)] }
abbrev QD:Tm:={ sl:=[(3, .k (.row 0 5)),(4, .t (.ls (.st .GClaim))),(5, .t (.i .i64)),(1000000, .k (.ptr 1 1 0 0))],ob:=[.row 41 (.st .GDocument), .box [.t (.st .GPensionref31_Feeds)]] }
noncomputable def f37:FI:={ fid:=37,fn:=Tryz.f37,c:=af Tryz.f37,ins:={ sl:=[(0, .k (.ptr 0 1 0 0)),(1000000, .k (.ptr 0 1 0 0))],ob:=[.box [.t (.st .GPensionref31_Feeds)]] },out:=.gen ({ sl:=[(1000000, .k (.ptr 0 1 0 0)),(2000000, .tp [.t (.ls (.st .GClaim))])],ob:=[.box [.t (.st .GPensionref31_Feeds)]] }),cuts:=[(122,QD)] }
abbrev Ry:Tm:={ sl:=[(0, .t (.ls (.st .GClaim))),(1, .t (.ls (.st .GClaim))),(5, .t (.i .i64))],ob:=[] }
noncomputable def f35:FI:={ fid:=35,fn:=Tryz.f35,c:=af Tryz.f35,ins:={ sl:=[(0, .t (.ls (.st .GClaim))),(1, .t (.ls (.st .GClaim)))] },out:=.new (.t (.b)),cuts:=[(58,Ry)] }
noncomputable def f10:FI:={ fid:=10,fn:=Tryz.f10,c:=af Tryz.f10,ins:={ sl:=[(0, .t (.ls (.st .GPensionlaw31_Raw))),(1, .t (.ls (.i .i64)))] },out:=.new (.t (.b)),cuts:=[] }
noncomputable def f12:FI:={ fid:=12,fn:=Tryz.f12,c:=af Tryz.f12,ins:={ sl:=[(0, .t (.ls (.st .GPensionlaw31_Raw))),(1, .t (.ls (.i .i64))),(2, .t (.ls (.i .i64)))] },out:=.new (.t (.b)),cuts:=[] }
noncomputable def RH:XT→HP f45.ins.tys→Option (HP f45.out.tys):=fun _ (a:List Int)=>y8 a
noncomputable def Pa:XT→HP f215.ins.tys→Option (HP f215.out.tys):=fun _ (a:ByteArray × Int)=>some (Go.firstIdx a.1 a.2.toNat.toUInt8)
noncomputable def RD:XT→HP f97.ins.tys→Option (HP f97.out.tys):=fun _ (a:List Int × List Int)=>some (gK a.1 a.2)
noncomputable def Tb:jZ:={ P:=Tryz.prog,fs:=[(16,[f16]),(50,[f50]),(41,[f41]),(115,[f115]),(116,[f116]),(80,[f80]),(172,[f172]),(134,[f134]),(105,[f105]),(146,[qH,f146]),(117,[f117]),(81,[f81]),(118,[f118]),(119,[f119]),(89,[f89]),(88,[f88]),(82,[f82]),(84,[f84]),(120,[f120]),(83,[f83]),(85,[f85]),(86,[f86]),(42,[f42]),(133,[f133]),(104,[f104]),(70,[f70]),(76,[f76]),(147,[f147]),(148,[f148]),(149,[f149]),(121,[f121]),(87,[f87]),(90,[f90]),(43,[f43]),(21,[f21]),(15,[f15]),(14,[mJ,f14]),(40,[f40]),(96,[f96]),(124,[f124]),(94,[f94]),(122,[f122]),(129,[f129]),(130,[f130]),(168,[f168]),(211,[f211]),(209,[f209]),(200,[f200]),(167,[f167]),(166,[f166]),(169,[f169]),(170,[f170]),(131,[f131]),(99,[f99]),(67,[f67]),(108,[f108]),(72,[f72]),(91,[f91]),(150,[f150]),(178,[f178]),(151,[f151]),(179,[f179]),(152,[f152]),(123,[f123]),(93,[f93]),(56,[f56]),(57,[f57]),(28,[f28]),(23,[f23]),(46,[f46]),(31,[f31]),(13,[f13]),(44,[f44]),(17,[f17]),(18,[f18]),(92,[u3,f92]),(47,[f47]),(48,[f48]),(79,[f79]),(39,[f39]),(22,[f22]),(49,[f49]),(52,[f52]),(25,[f25]),(51,[f51]),(53,[f53]),(24,[f24]),(20,[f20]),(19,[f19]),(3,[f3]),(4,[f4]),(54,[f54]),(55,[f55]),(26,[f26]),(27,[f27]),(5,[f5]),(6,[f6]),(59,[f59]),(58,[f58]),(29,[f29]),(7,[f7]),(60,[f60,uK]),(61,[f61]),(126,[f126]),(98,[f98]),(63,[f63]),(64,[f64]),(62,[f62]),(66,[f66]),(65,[f65]),(30,[f30]),(8,[f8]),(9,[f9]),(145,[f145]),(112,[f112]),(111,[f111]),(102,[f102]),(201,[OG,f201]),(171,[f171]),(132,[f132]),(103,[f103]),(100,[f100]),(101,[f101]),(68,[f68]),(33,[f33]),(69,[Qj,f69]),(106,[f106]),(107,[f107]),(71,[f71]),(34,[f34]),(32,[f32]),(75,[Qb]),(36,[f36]),(113,[f113]),(77,[f77]),(37,[f37]),(35,[f35]),(10,[f10]),(12,[f12])],sp:=(fun f=>(bif Nat.beq f 97 then .hand f97 RD else (bif Nat.beq f 215 then .hand f215 Pa else (bif Nat.beq f 45 then .hand f45 RH else (bif Nat.beq f 127 then .mut (fun _=>sq 106 128 105 (.st .GSpan) jR) else (bif Nat.beq f 95 then .mut (fun _=>HB) else (bif Nat.beq f 73 then .mut (fun _=>AS 74 64 (.st .GClaim) Gj) else .none))))))) }
theorem al:iV Tb:=⟨fun f=>(.cnd (.h _) (.cnd (.h _) (.cnd (.h _) (.cnd (.m _) (.cnd (.m _) (.cnd (.m _) trivial))))))⟩
noncomputable def gC (b:List Int):Option (List Int):=RH (Xc Tb) b
noncomputable def ur (t0:ByteArray) (t1:Int):Option Int:=Pa (Xc Tb) (t0,t1)
noncomputable def C9 (t0:List Int) (t1:List Int):Option Int:=RD (Xc Tb) (t0,t1)
noncomputable def aw (n:Int) (m:Int):Option Int:=Xf Tb f16 1 f16.ins (n,m)
noncomputable def bV (b:List Int):Option Int:=Xf Tb f50 1 f50.ins b
noncomputable def ic (b:List Int) (v:Int) (i:Int):Option Int:=Xf Tb f50 58 J2 (b,v,i)
noncomputable def gu (b:List Int):Option Int:=Xf Tb f41 1 f41.ins b
noncomputable def vu (n:Int):Option Int:=Xf Tb f115 1 f115.ins n
noncomputable def jP (kind:Int):Option ByteArray:=Xf Tb f116 1 f116.ins kind
noncomputable def ze (r:GPensionhand_Fact):Option GFact:=Xf Tb f80 1 f80.ins r
noncomputable def gG (xfrom:Int) (to:Int) (r:GPensionhand_Fact) (t2:GFact) (f:GFact):Option GFact:=Xf Tb f80 127 Fx (xfrom,to,r,t2,f)
noncomputable def kG (xfrom:Int) (to:Int) (u:ByteArray) (i:Int) (r:GPensionhand_Fact) (t2:GFact) (f:GFact):Option GFact:=Xf Tb f80 2042 CH (xfrom,to,u,i,r,t2,f)
noncomputable def cd (xfrom:Int) (to:Int) (u:ByteArray) (i:Int) (r:GPensionhand_Fact) (t2:GFact) (f:GFact):Option GFact:=Xf Tb f80 16339 zI (xfrom,to,u,i,r,t2,f)
noncomputable def xW (kind:Int) (c:Int):Option Bool:=Xf Tb f172 1 f172.ins (kind,c)
noncomputable def eR (c:Int) (s:ByteArray) (i:Int):Option Bool:=Xf Tb f172 58 EX (c,s,i)
noncomputable def cG (kind:Int) (c:Int) (n:Int) (least:Int) (most:Int):Option Bool:=Xf Tb f134 1 f134.ins (kind,c,n,least,most)
noncomputable def ql (f:GFact):Option Bool:=Xf Tb f105 1 f105.ins f
noncomputable def aU (n:Int) (size:Int) (b:List Int):Option (List Int):=Xf Tb qH 1 qH.ins (n,size,b)
noncomputable def eV (n:Int) (i:Int) (b:List Int):Option (List Int):=Xf Tb qH 26 zN (n,i,b)
noncomputable def qo (f:GFact):Option (List Int):=Xf Tb f117 1 f117.ins f
noncomputable def kL (gone:Int) (f:GFact):Option (List Int):=Xf Tb f117 31 ED (gone,f)
noncomputable def cY (s:ByteArray) (i:Int) (f:GFact) (b:List Int):Option (List Int):=Xf Tb f117 1018 zH (s,i,f,b)
noncomputable def cu (s:ByteArray) (i:Int) (f:GFact) (b:List Int):Option (List Int):=Xf Tb f117 8147 z8 (s,i,f,b)
noncomputable def tx (f:GFact):Option (List Int × Bool):=Xf Tb f81 1 f81.ins f
noncomputable def bn (n:Int) (least:Int) (most:Int):Option Bool:=Xf Tb f118 1 f118.ins (n,least,most)
noncomputable def rk (day:Int):Option Bool:=Xf Tb f119 1 f119.ins day
noncomputable def aN (v:Int) (n:Int):Option (List Int):=Xf Tb f89 1 f89.ins (v,n)
noncomputable def ig (v:Int) (i:Int) (out:List Int):Option (List Int):=Xf Tb f89 58 Io (v,i,out)
noncomputable def gw (l:List (List Int)):Option (List Int):=Xf Tb f88 1 f88.ins l
noncomputable def lN (l:List (List Int)) (i:Int) (out:List Int):Option (List Int):=Xf Tb f88 58 Ic (l,i,out)
noncomputable def mK (c:GClaim):Option (List Int × Bool):=Xf Tb f82 1 f82.ins c
noncomputable def fm (n:Int):Option Int:=Xf Tb f84 1 f84.ins n
noncomputable def iv (month:Int):Option Bool:=Xf Tb f120 1 f120.ins month
noncomputable def kP (r:GRequest):Option (List Int × Bool):=Xf Tb f83 1 f83.ins r
noncomputable def iC (r:GRemittance):Option (List Int × Bool):=Xf Tb f85 1 f85.ins r
noncomputable def lJ (n:GNotice):Option (List Int × Bool):=Xf Tb f86 1 f86.ins n
noncomputable def so (r:GPensionlaw31_Raw) (kind:Int) (sender:Int):Option (List Int):=Xf Tb f42 1 f42.ins (r,kind,sender)
noncomputable def cR (b:List Int):Option Int:=Xf Tb f133 1 f133.ins b
noncomputable def eX (b:List Int) (n:Int) (i:Int):Option Int:=Xf Tb f133 58 EV (b,n,i)
noncomputable def sM (b:List Int):Option (GFact × Int × Bool):=Xf Tb f104 1 f104.ins b
noncomputable def da (b:List Int) (xat:Int) (s:ByteArray) (i:Int) (t2:GFact) (f:GFact):Option (GFact × Int × Bool):=Xf Tb f104 506 Cp (b,xat,s,i,t2,f)
noncomputable def ez (b:List Int) (xat:Int) (s:ByteArray) (i:Int) (size:Int) (t2:GFact) (f:GFact):Option (GFact × Int × Bool):=Xf Tb f104 32403 yw (b,xat,s,i,size,t2,f)
noncomputable def bP (b:List Int) (xat:Int) (s:ByteArray) (i:Int) (size:Int) (t2:GFact) (f:GFact):Option (GFact × Int × Bool):=Xf Tb f104 259231 vT (b,xat,s,i,size,t2,f)
noncomputable def xK (b:List Int):Option (GFact × Bool):=Xf Tb f70 1 f70.ins b
noncomputable def vI (b:List Int):Option (GClaim × Bool):=Xf Tb f76 1 f76.ins b
noncomputable def rC (b:List Int):Option (GRequest × Bool):=Xf Tb f147 1 f147.ins b
noncomputable def m5 (b:List Int):Option (GRemittance × Bool):=Xf Tb f148 1 f148.ins b
noncomputable def tY (b:List Int):Option (GNotice × Bool):=Xf Tb f149 1 f149.ins b
noncomputable def sh (kind:Int) (sender:Int) (b:List Int):Option Bool:=Xf Tb f121 1 f121.ins (kind,sender,b)
noncomputable def ko (d:GDocument):Option Bool:=Xf Tb f87 1 f87.ins d
noncomputable def l7 (b:List Int):Option Int:=Xf Tb f90 1 f90.ins b
noncomputable def bY (b:List Int) (c:Int) (i:Int):Option Int:=Xf Tb f90 58 Kj (b,c,i)
noncomputable def cN (b:List Int) (c:Int) (i:Int) (k:Int):Option Int:=Xf Tb f90 7462 BT (b,c,i,k)
noncomputable def gI (d:GDocument):Option (List Int × Int):=Xf Tb f43 1 f43.ins d
noncomputable def dU (l:List GPensionlaw31_Raw):Option (List (List Int)):=Xf Tb f21 1 f21.ins l
noncomputable def gf (l:List GPensionlaw31_Raw) (i:Int) (out:List (List Int)) (count:List Int) (last:List (List Int)):Option (List (List Int)):=Xf Tb f21 250 ER (l,i,out,count,last)
noncomputable def gX (l:List GPensionlaw31_Raw) (i:Int) (s:Int) (out:List (List Int)) (count:List Int) (last:List (List Int)) (d:GDocument):Option (List (List Int)):=Xf Tb f21 32039 zM (l,i,s,out,count,last,d)
noncomputable def iP (l:List GPensionlaw31_Raw):Option (List (List Int)):=Xf Tb f15 1 f15.ins l
noncomputable def io (l:List GPensionlaw31_Raw) (i:Int) (out:List (List Int)):Option (List (List Int)):=Xf Tb f15 58 Jw (l,i,out)
noncomputable def iT (l:List GPensionlaw31_Raw) (i:Int) (s:Int) (out:List (List Int)) (d:GDocument):Option (List (List Int)):=Xf Tb f15 7463 B4 (l,i,s,out,d)
noncomputable def fX (l:List (List Int)) (xby:List Int):Option (List (List Int)):=Xf Tb f14 1 f14.ins (l,xby)
noncomputable def iG (xby:List Int) (i:Int) (rest:List (List Int)) (out:List (List Int)):Option (List (List Int)):=Xf Tb f14 122 EL (xby,i,rest,out)
noncomputable def gY (xby:List Int) (i:Int) (n:Int) (rest:List (List Int)) (out:List (List Int)):Option (List (List Int)):=Xf Tb f14 7827 Cn (xby,i,n,rest,out)
noncomputable def gr (xby:List Int) (i:Int) (k:Int) (rest:List (List Int)) (out:List (List Int)):Option (List (List Int)):=Xf Tb f14 62623 y3 (xby,i,k,rest,out)
noncomputable def xt:Option (List GFeed_key × List (List Int)):=Xf Tb f40 1 f40.ins ()
noncomputable def aq (n:Int) (b:GDocument_reader):Option (Int × GDocument_reader):=Xf Tb f96 1 f96.ins (n,b)
noncomputable def cF (n:Int) (v:Int) (t13:List Int) (t14:Int) (t15:Int) (b:GDocument_reader):Option (Int × GDocument_reader):=Xf Tb f96 58 Is (n,v,t13,t14,t15,b)
noncomputable def qb:Option (List Int):=Xf Tb f124 1 f124.ins ()
noncomputable def fu (t4:Int) (t0:List Int) (out:List Int):Option (List Int):=Xf Tb f124 58 Ey (t4,t0,out)
noncomputable def cE (i:Int) (v:Int) (t4:Int) (t9:Int) (t0:List Int) (out:List Int):Option (List Int):=Xf Tb f124 59802 xM (i,v,t4,t9,t0,out)
noncomputable def gc (b:List Int):Option Int:=Xf Tb f94 1 f94.ins b
noncomputable def bh (v:Int) (t8:List Int) (t9:Int) (t10:Int) (t:List Int):Option Int:=Xf Tb f94 122 EP (v,t8,t9,t10,t)
noncomputable def bd (v:Int) (low:Int) (high:Int):Option Bool:=Xf Tb f122 1 f122.ins (v,low,high)
noncomputable def an (size:Int) (r:GFact_reader):Option (Int × GFact_reader):=Xf Tb f129 1 f129.ins (size,r)
noncomputable def df (size:Int) (x:Int) (t23:List Int) (t24:Int) (t25:Int) (r:GFact_reader):Option (Int × GFact_reader):=Xf Tb f129 122 B6 (size,x,t23,t24,t25,r)
noncomputable def gx (kind:Int):Option ByteArray:=Xf Tb f130 1 f130.ins kind
noncomputable def pG (t3:Int) (t6:Bool):Option ByteArray:=Xf Tb f130 215 BS (t3,t6)
noncomputable def iB (t3:Int) (t11:Bool):Option ByteArray:=Xf Tb f130 3455 zc (t3,t11)
noncomputable def iX (t3:Int) (t20:Bool):Option ByteArray:=Xf Tb f130 221183 vP (t3,t20)
noncomputable def iM (x:Int) (low:Int) (high:Int):Option Bool:=Xf Tb f168 1 f168.ins (x,low,high)
noncomputable def nu (s:ByteArray) (c:Int):Option Int:=Xf Tb f211 1 f211.ins (s,c)
noncomputable def rL (s:ByteArray) (substr:ByteArray):Option Int:=Xf Tb f209 1 f209.ins (s,substr)
noncomputable def yN (s:ByteArray) (substr:ByteArray):Option Int:=Xf Tb f200 1 f200.ins (s,substr)
noncomputable def s7 (s:ByteArray) (substr:ByteArray):Option Bool:=Xf Tb f167 1 f167.ins (s,substr)
noncomputable def fp (letter:ByteArray) (t1:ByteArray):Option Bool:=Xf Tb f166 1 f166.ins (letter,t1)
noncomputable def im (used:Bool) (x:Int) (low:Int) (high:Int):Option Bool:=Xf Tb f169 1 f169.ins (used,x,low,high)
noncomputable def pH (s:GSpan):Option Bool:=Xf Tb f170 1 f170.ins s
noncomputable def yn (f:GFact):Option Bool:=Xf Tb f131 1 f131.ins f
noncomputable def gT (t89:Int) (t97:Bool) (f:GFact):Option Bool:=Xf Tb f131 2007 zV (t89,t97,f)
noncomputable def Aj (b:List Int):Option (GFact × Int × Bool):=Xf Tb f99 1 f99.ins b
noncomputable def aK (b:List Int) (withdrawn:Int) (f:GFact) (r:GFact_reader) (s2:ByteArray) (s2p:Int):Option (GFact × Int × Bool):=Xf Tb f99 1018 B0 (b,withdrawn,f,r,s2,s2p)
noncomputable def rI (b:List Int):Option (GFact × Bool):=Xf Tb f67 1 f67.ins b
noncomputable def kn (c:GClaim):Option Bool:=Xf Tb f108 1 f108.ins c
noncomputable def p5 (b:List Int):Option (GClaim × Bool):=Xf Tb f72 1 f72.ins b
noncomputable def fT (r:GRequest):Option Bool:=Xf Tb f91 1 f91.ins r
noncomputable def mT (b:List Int):Option (GRequest × Bool):=Xf Tb f150 1 f150.ins b
noncomputable def gQ (r:GRemittance):Option Bool:=Xf Tb f178 1 f178.ins r
noncomputable def kr (b:List Int):Option (GRemittance × Bool):=Xf Tb f151 1 f151.ins b
noncomputable def jN (n:GNotice):Option Bool:=Xf Tb f179 1 f179.ins n
noncomputable def o6 (b:List Int):Option (GNotice × Bool):=Xf Tb f152 1 f152.ins b
noncomputable def iE (d:GDocument):Option Bool:=Xf Tb f123 1 f123.ins d
noncomputable def gF (d:GDocument):Option Bool:=Xf Tb f93 1 f93.ins d
noncomputable def iJ (b:List Int):Option (GDocument × Int):=Xf Tb f56 1 f56.ins b
noncomputable def kd (a:List Int) (b:List Int):Option Int:=Xf Tb f57 1 f57.ins (a,b)
noncomputable def cD (b:List Int) (kept_k:List GFeed_key) (kept_v:List (List Int)):Option (Int × List GFeed_key × List (List Int)):=Xf Tb f28 1 f28.ins (b,kept_k,kept_v)
noncomputable def k8 (b:List Int):Option (GDocument × Int):=Xf Tb f23 1 f23.ins b
noncomputable def dn (f:GPensionref31_Feeds) (sender:Int) (number:Int):Option (Int × Bool):=Xf Tb f46 1 f46.ins (f,sender,number)
noncomputable def dB (f:GPensionref31_Feeds) (sender:Int) (number:Int) (i:Int):Option (Int × Bool):=Xf Tb f46 26 Jp (f,sender,number,i)
noncomputable def ky (b:List Int) (L:GPensionref31_Feeds):Option (Int × GPensionref31_Feeds):=Xf Tb f31 1 f31.ins (b,L)
noncomputable def gv (b:List Int) (i:Int) (rest:Int) (L:GPensionref31_Feeds) (d:GDocument):Option (Int × GPensionref31_Feeds):=Xf Tb f31 255 Fy (b,i,rest,L,d)
noncomputable def cB (l:List (List Int)):Option (Bool × List (List Int) × GPensionref31_Feeds × List GFeed_key × List (List Int)):=Xf Tb f13 1 f13.ins l
noncomputable def ja (i:Int) (l:List (List Int)) (L:GPensionref31_Feeds) (kept_k:List GFeed_key) (kept_v:List (List Int)):Option (Bool × List (List Int) × GPensionref31_Feeds × List GFeed_key × List (List Int)):=Xf Tb f13 58 JQ (i,l,L,kept_k,kept_v)
noncomputable def eU (sender:Int) (number:Int) (kept_k:List GFeed_key) (kept_v:List (List Int)):Option (List Int × Bool × List GFeed_key × List (List Int)):=Xf Tb f44 1 f44.ins (sender,number,kept_k,kept_v)
noncomputable def jr (sender:Int) (number:Int) (kept_k:List GFeed_key) (kept_v:List (List Int)):Option (List Int × Bool × List GFeed_key × List (List Int)):=Xf Tb f17 1 f17.ins (sender,number,kept_k,kept_v)
noncomputable def iy (f:GPensionref31_Feeds) (sender:Int) (number:Int):Option (List Int × Bool):=Xf Tb f18 1 f18.ins (f,sender,number)
noncomputable def ba (v:Int) (n:Int) (b:List Int):Option (List Int):=Xf Tb u3 1 u3.ins (v,n,b)
noncomputable def cW (v:Int) (n:Int) (b:List Int):Option (List Int):=Xf Tb u3 26 CZ (v,n,b)
noncomputable def lr (r:GRequest):Option (List Int × Bool):=Xf Tb f47 1 f47.ins r
noncomputable def kI (d:GDocument):Option (List Int × Int):=Xf Tb f48 1 f48.ins d
noncomputable def mO (b:List Int):Option Int:=Xf Tb f79 1 f79.ins b
noncomputable def gn (sender:Int) (kept_k:List GFeed_key) (kept_v:List (List Int)):Option (List GDocument × List GFeed_key × List (List Int)):=Xf Tb f39 1 f39.ins (sender,kept_k,kept_v)
noncomputable def dl (sender:Int) (prev:Int) (n:Int) (out:List GDocument) (kept_k:List GFeed_key) (kept_v:List (List Int)):Option (List GDocument × List GFeed_key × List (List Int)):=Xf Tb f39 62 I3 (sender,prev,n,out,kept_k,kept_v)
noncomputable def d6 (sender:Int) (kept_k:List GFeed_key) (kept_v:List (List Int)):Option (Int × List GFeed_key × List (List Int)):=Xf Tb f22 1 f22.ins (sender,kept_k,kept_v)
noncomputable def eC (sender:Int) (kept_k:List GFeed_key) (kept_v:List (List Int)):Option (Int × List GFeed_key × List (List Int)):=Xf Tb f49 1 f49.ins (sender,kept_k,kept_v)
noncomputable def fW (sender:Int) (p:Int) (kept_k:List GFeed_key) (kept_v:List (List Int)):Option (Int × List GFeed_key × List (List Int)):=Xf Tb f49 14 I0 (sender,p,kept_k,kept_v)
noncomputable def gg (sender:Int) (p:Int) (kept_k:List GFeed_key) (kept_v:List (List Int)):Option (Int × List GFeed_key × List (List Int)):=Xf Tb f52 1 f52.ins (sender,p,kept_k,kept_v)
noncomputable def fK (sender:Int) (p:Int) (n:Int) (all:List Int) (kept_k:List GFeed_key) (kept_v:List (List Int)):Option (Int × List GFeed_key × List (List Int)):=Xf Tb f52 58 JS (sender,p,n,all,kept_k,kept_v)
noncomputable def aL (kept_k:List GFeed_key) (kept_v:List (List Int)):Option (List Int × List GFeed_key × List (List Int)):=Xf Tb f25 1 f25.ins (kept_k,kept_v)
noncomputable def en (t8:Int) (out:List Int) (kept_k:List GFeed_key) (kept_v:List (List Int)):Option (List Int × List GFeed_key × List (List Int)):=Xf Tb f25 58 Ii (t8,out,kept_k,kept_v)
noncomputable def rW (inventory:List Int) (sender:Int):Option (Int × Int):=Xf Tb f51 1 f51.ins (inventory,sender)
noncomputable def fF (sender:Int) (kept_k:List GFeed_key) (kept_v:List (List Int)):Option (List Int × List GFeed_key × List (List Int)):=Xf Tb f53 1 f53.ins (sender,kept_k,kept_v)
noncomputable def dC (sender:Int) (out:List Int) (w1s:Int) (w1l:List Int) (kept_k:List GFeed_key) (kept_v:List (List Int)):Option (List Int × List GFeed_key × List (List Int)):=Xf Tb f53 234 Fs (sender,out,w1s,w1l,kept_k,kept_v)
noncomputable def bN (inventory:List Int) (kept_k:List GFeed_key) (kept_v:List (List Int)):Option (List (List Int) × Int × List GFeed_key × List (List Int)):=Xf Tb f24 1 f24.ins (inventory,kept_k,kept_v)
noncomputable def eG (inventory:List Int) (t29:Int) (kept_k:List GFeed_key) (kept_v:List (List Int)):Option (List (List Int) × Int × List GFeed_key × List (List Int)):=Xf Tb f24 122 EA (inventory,t29,kept_k,kept_v)
noncomputable def dF (inventory:List Int) (t41:Int) (out:List (List Int)) (kept_k:List GFeed_key) (kept_v:List (List Int)):Option (List (List Int) × Int × List GFeed_key × List (List Int)):=Xf Tb f24 506 FU (inventory,t41,out,kept_k,kept_v)
noncomputable def aO (inventory:List Int) (sender:Int) (p:Int) (differ:Bool) (t41:Int) (t66:Int) (t67:Int) (out:List (List Int)) (t65:List Int) (kept_k:List GFeed_key) (kept_v:List (List Int)):Option (List (List Int) × Int × List GFeed_key × List (List Int)):=Xf Tb f24 518558 xh (inventory,sender,p,differ,t41,t66,t67,out,t65,kept_k,kept_v)
noncomputable def dT (a:List Int) (b:List Int):Option Bool:=Xf Tb f20 1 f20.ins (a,b)
noncomputable def ff:Option Bool:=Xf Tb f19 1 f19.ins ()
noncomputable def pr (l:List GPensionlaw31_Raw) (xby:List Int) (sender:Int) (number:Int):Option Bool:=Xf Tb f3 1 f3.ins (l,xby,sender,number)
noncomputable def jQ (xby:List Int) (l:List (List Int)):Option (List (List Int) × List (List Int)):=Xf Tb mJ 1 mJ.ins (xby,l)
noncomputable def fO (xby:List Int) (i:Int) (rest:List (List Int)) (out:List (List Int)) (t1000000:List (List Int)):Option (List (List Int) × List (List Int)):=Xf Tb mJ 122 zh (xby,i,rest,out,t1000000)
noncomputable def e8 (xby:List Int) (i:Int) (n:Int) (rest:List (List Int)) (out:List (List Int)) (t1000000:List (List Int)):Option (List (List Int) × List (List Int)):=Xf Tb mJ 7827 x7 (xby,i,n,rest,out,t1000000)
noncomputable def eF (xby:List Int) (i:Int) (k:Int) (rest:List (List Int)) (out:List (List Int)) (t1000000:List (List Int)):Option (List (List Int) × List (List Int)):=Xf Tb mJ 62623 vD (xby,i,k,rest,out,t1000000)
noncomputable def jv (l:List GPensionlaw31_Raw) (xby:List Int) (out:Int):Option Bool:=Xf Tb f4 1 f4.ins (l,xby,out)
noncomputable def bU (xby:List Int) (out:Int) (n:Int) (s:Int) (d:List (List Int)) (kept_k:List GFeed_key) (kept_v:List (List Int)):Option Bool:=Xf Tb f4 506 JU (xby,out,n,s,d,kept_k,kept_v)
noncomputable def cw (s:Int) (gone:GDocument) (kept_k:List GFeed_key) (kept_v:List (List Int)) (kept_k2:List GFeed_key) (kept_v2:List (List Int)):Option Bool:=Xf Tb f4 65530 CK (s,gone,kept_k,kept_v,kept_k2,kept_v2)
noncomputable def bZ (s:Int) (want:Int) (gone:GDocument) (kept_k:List GFeed_key) (kept_v:List (List Int)) (kept_k2:List GFeed_key) (kept_v2:List (List Int)):Option Bool:=Xf Tb f4 4193939 yh (s,want,gone,kept_k,kept_v,kept_k2,kept_v2)
noncomputable def cH (f:GPensionref31_Feeds) (sender:Int):Option Int:=Xf Tb f54 1 f54.ins (f,sender)
noncomputable def fg (f:GPensionref31_Feeds) (sender:Int) (p:Int):Option Int:=Xf Tb f54 14 Jm (f,sender,p)
noncomputable def ee (f:GPensionref31_Feeds) (sender:Int) (p:Int):Option Int:=Xf Tb f55 1 f55.ins (f,sender,p)
noncomputable def fc (f:GPensionref31_Feeds) (sender:Int) (p:Int) (n:Int) (b:List Int):Option Int:=Xf Tb f55 58 IM (f,sender,p,n,b)
noncomputable def gW (b:List Int) (L:GPensionref31_Feeds):Option (List (List Int) × Int × GPensionref31_Feeds):=Xf Tb f26 1 f26.ins (b,L)
noncomputable def eH (b:List Int) (s:Int) (L:GPensionref31_Feeds):Option (List (List Int) × Int × GPensionref31_Feeds):=Xf Tb f26 58 H4 (b,s,L)
noncomputable def aW (b:List Int) (i:Int) (L:GPensionref31_Feeds) (out:List (List Int)):Option (List (List Int) × Int × GPensionref31_Feeds):=Xf Tb f26 250 EH (b,i,L,out)
noncomputable def qk (a:List (List Int)) (b:List (List Int)):Option Bool:=Xf Tb f27 1 f27.ins (a,b)
noncomputable def ep (a:List (List Int)) (b:List (List Int)) (i:Int):Option Bool:=Xf Tb f27 58 I9 (a,b,i)
noncomputable def md (l:List GPensionlaw31_Raw) (k:List GPensionlaw31_Raw) (xby:List Int) (raw:List Int):Option Bool:=Xf Tb f5 1 f5.ins (l,k,xby,raw)
noncomputable def jw (l:List GPensionlaw31_Raw) (k:List GPensionlaw31_Raw):Option Bool:=Xf Tb f6 1 f6.ins (l,k)
noncomputable def br (round:Int) (kept_k:List GFeed_key) (kept_v:List (List Int)) (kept_k2:List GFeed_key) (kept_v2:List (List Int)):Option Bool:=Xf Tb f6 250 IR (round,kept_k,kept_v,kept_k2,kept_v2)
noncomputable def cn (round:Int) (p:List (List Int)) (q:List (List Int)) (i:Int) (kept_k:List GFeed_key) (kept_v:List (List Int)) (kept_k2:List GFeed_key) (kept_v2:List (List Int)):Option Bool:=Xf Tb f6 256314 zF (round,p,q,i,kept_k,kept_v,kept_k2,kept_v2)
noncomputable def bC (round:Int) (q:List (List Int)) (i:Int) (kept_k:List GFeed_key) (kept_v:List (List Int)) (kept_k2:List GFeed_key) (kept_v2:List (List Int)):Option Bool:=Xf Tb f6 256318 y7 (round,q,i,kept_k,kept_v,kept_k2,kept_v2)
noncomputable def qh (a:List Int) (b:List Int):Option Bool:=Xf Tb f59 1 f59.ins (a,b)
noncomputable def ww (m1_k:List GFeed_key) (m1_v:List (List Int)) (m2_k:List GFeed_key) (m2_v:List (List Int)):Option (Bool × List GFeed_key × List (List Int) × List GFeed_key × List (List Int)):=Xf Tb f58 1 f58.ins (m1_k,m1_v,m2_k,m2_v)
noncomputable def iI (m2_k:List GFeed_key) (m2_v:List (List Int)) (w1s:Int) (w1l:List Int) (t1000000_k:List GFeed_key) (t1000000_v:List (List Int)):Option (Bool × List GFeed_key × List (List Int) × List GFeed_key × List (List Int)):=Xf Tb f58 58 JJ (m2_k,m2_v,w1s,w1l,t1000000_k,t1000000_v)
noncomputable def m9 (kept_k:List GFeed_key) (kept_v:List (List Int)) (kept_k2:List GFeed_key) (kept_v2:List (List Int)):Option (Bool × List GFeed_key × List (List Int) × List GFeed_key × List (List Int)):=Xf Tb f29 1 f29.ins (kept_k,kept_v,kept_k2,kept_v2)
noncomputable def oM (a_k:List GFeed_key) (a_v:List (List Int)) (kept_k:List GFeed_key) (kept_v:List (List Int)):Option (Bool × List GFeed_key × List (List Int) × List GFeed_key × List (List Int)):=Xf Tb f29 15 I7 (a_k,a_v,kept_k,kept_v)
noncomputable def ph (l:List GPensionlaw31_Raw) (a:List Int) (b:List Int):Option Bool:=Xf Tb f7 1 f7.ins (l,a,b)
noncomputable def db (a:List Int) (b:List Int) (s:Int) (d:List (List Int)) (na:List Int) (nb:List Int):Option Bool:=Xf Tb f7 250 IQ (a,b,s,d,na,nb)
noncomputable def bM (i:Int) (d:List (List Int)) (x:List (List Int)) (y:List (List Int)) (na:List Int) (nb:List Int):Option Bool:=Xf Tb f7 506 Kl (i,d,x,y,na,nb)
noncomputable def dL (a:List Int) (b:List Int) (s:Int) (d:List (List Int)) (na:List Int) (nb:List Int):Option Bool:=Xf Tb f7 16019 Ci (a,b,s,d,na,nb)
noncomputable def dJ (i:Int) (d:List (List Int)) (x:List (List Int)) (y:List (List Int)) (na:List Int) (nb:List Int) (k:GDocument):Option Bool:=Xf Tb f7 64807 CV (i,d,x,y,na,nb,k)
noncomputable def dQ (p:List (List Int)) (q:List (List Int)) (i:Int) (kept_k:List GFeed_key) (kept_v:List (List Int)) (kept_k2:List GFeed_key) (kept_v2:List (List Int)):Option Bool:=Xf Tb f7 65530 BX (p,q,i,kept_k,kept_v,kept_k2,kept_v2)
noncomputable def bR (q:List (List Int)) (i:Int) (kept_k:List GFeed_key) (kept_v:List (List Int)) (kept_k2:List GFeed_key) (kept_v2:List (List Int)):Option Bool:=Xf Tb f7 131066 Ao (q,i,kept_k,kept_v,kept_k2,kept_v2)
noncomputable def jl (sender:Int) (L:GPensionref31_Feeds):Option (GPensionref31_Feeds × List GDocument):=Xf Tb f60 1 f60.ins (sender,L)
noncomputable def dW (sender:Int) (prev:Int) (p:Int) (n:Int) (L:GPensionref31_Feeds) (out:List GDocument):Option (GPensionref31_Feeds × List GDocument):=Xf Tb f60 250 FA (sender,prev,p,n,L,out)
noncomputable def gJ (f:GPensionref31_Feeds) (sender:Int):Option (List GDocument):=Xf Tb uK 1 uK.ins (f,sender)
noncomputable def dg (f:GPensionref31_Feeds) (sender:Int) (prev:Int) (p:Int) (n:Int) (out:List GDocument):Option (List GDocument):=Xf Tb uK 250 zX (f,sender,prev,p,n,out)
noncomputable def oJ (f:GPensionref31_Feeds) (sender:Int):Option Int:=Xf Tb f61 1 f61.ins (f,sender)
noncomputable def vC (s:GSpan):Option GSpan:=Xf Tb f126 1 f126.ins s
noncomputable def yA (l:List GSpan):Option (List GSpan):=Xf Tb f98 1 f98.ins l
noncomputable def d7 (t10:List GSpan) (t11:Int) (t12:Int) (sorted:List GSpan):Option (List GSpan):=Xf Tb f98 58 JN (t10,t11,t12,sorted)
noncomputable def dO (t33:Int) (t34:Int) (out:List GSpan) (t32:List GSpan):Option (List GSpan):=Xf Tb f98 506 Em (t33,t34,out,t32)
noncomputable def kY (sender:Int) (kept_k:List GFeed_key) (kept_v:List (List Int)):Option (List GSpan × List GFeed_key × List (List Int)):=Xf Tb f63 1 f63.ins (sender,kept_k,kept_v)
noncomputable def ck (t11:Int) (t12:Int) (out:List GSpan) (t10:List Int) (kept_k:List GFeed_key) (kept_v:List (List Int)):Option (List GSpan × List GFeed_key × List (List Int)):=Xf Tb f63 58 HT (t11,t12,out,t10,kept_k,kept_v)
noncomputable def kq (f:GPensionref31_Feeds) (sender:Int):Option (List GSpan):=Xf Tb f64 1 f64.ins (f,sender)
noncomputable def aY (f:GPensionref31_Feeds) (sender:Int) (i:Int) (out:List GSpan):Option (List GSpan):=Xf Tb f64 58 IY (f,sender,i,out)
noncomputable def xj (a:List GSpan) (b:List GSpan):Option Bool:=Xf Tb f62 1 f62.ins (a,b)
noncomputable def eQ (a:List GSpan) (b:List GSpan) (i:Int):Option Bool:=Xf Tb f62 58 H3 (a,b,i)
noncomputable def js (f:GPensionref31_Feeds):Option (List Int):=Xf Tb f66 1 f66.ins f
noncomputable def eh (f:GPensionref31_Feeds) (s:Int) (out:List Int):Option (List Int):=Xf Tb f66 58 Iz (f,s,out)
noncomputable def yo (a:GDocument) (b:GDocument):Option Bool:=Xf Tb f65 1 f65.ins (a,b)
noncomputable def nX (L:GPensionref31_Feeds) (kept_k:List GFeed_key) (kept_v:List (List Int)):Option (Bool × GPensionref31_Feeds × List GFeed_key × List (List Int)):=Xf Tb f30 1 f30.ins (L,kept_k,kept_v)
noncomputable def l6 (s:Int) (L:GPensionref31_Feeds) (kept_k:List GFeed_key) (kept_v:List (List Int)):Option (Bool × GPensionref31_Feeds × List GFeed_key × List (List Int)):=Xf Tb f30 26 Ij (s,L,kept_k,kept_v)
noncomputable def dm (s:Int) (i:Int) (t28:Int) (t29:Int) (t31:Int) (t32:Int) (t33:Bool) (t37:Int) (t40:Int) (t42:Bool) (t43:Bool) (t47:Int) (t49:Int) (t50:Bool) (L:GPensionref31_Feeds) (a:List GDocument) (b:List GDocument) (t38:List GSpan) (t41:List GSpan) (kept_k:List GFeed_key) (kept_v:List (List Int)):Option (Bool × GPensionref31_Feeds × List GFeed_key × List (List Int)):=Xf Tb f30 6734 BQ (s,i,t28,t29,t31,t32,t33,t37,t40,t42,t43,t47,t49,t50,L,a,b,t38,t41,kept_k,kept_v)
noncomputable def pz (l:List GPensionlaw31_Raw) (xby:List Int):Option Bool:=Xf Tb f8 1 f8.ins (l,xby)
noncomputable def oV (l:List GPensionlaw31_Raw) (b:List Int) (xat:Int) (x:Int):Option Bool:=Xf Tb f9 1 f9.ins (l,b,xat,x)
end Go.Ax
